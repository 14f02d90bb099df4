/- The evaluator: values, memory blocks, resolved operations, and what an evaluation gives. Definitions and small facts; nothing is claimed of the program here. How the evaluator's values and blocks stand to the model's memory; what keeps that relation. What keeps the state's relation: a slot that is written, a new block, a store, an append. Stores and appends on the state's relation. -/
import Derived.WalkKit
set_option linter.unusedSimpArgs false
set_option linter.unusedVariables false
namespace Go.Proofs.YteaopgkajbfkeaaGreatDoor
open Go

/-- A value of the evaluator. 'sl': a slice that nobody writes; 'gsl': the same, and the spare places behind it are this value's own; 'osl', 'ref': into a block of the evaluation's own; 'eref': the address of a cell that nobody writes; 'any': nothing is known; 'hole': the same, and the number of a block that is not yet in memory; 'z': a slice without elements and without places for some. -/
inductive AV where
  | bool (b : Bool)
  | int (k : IntKind) (n : Int)
  | str (s : List UInt8)
  | nilp
  | nilf
  | nili
  | nils
  | agg (cs : List AV)
  | tup (vs : List AV)
  | sl (esz : Nat) (vs : List AV)
  | gsl (esz : Nat) (vs : List AV)
  | osl (b off len cap : Nat)
  | ref (b off : Nat)
  | eref (cs : List AV) (off : Nat)
  | fn (f : Nat) (first caps : List AV)
  | iface (t : Nat) (v : AV)
  | gptr (g off : Nat)
  | any
  | hole (n : Nat)
  | z (esz : Nat)
  deriving Inhabited

def AV.cells : AV → List AV
  | .agg cs => cs
  | v => [v]

/-- May it be the content of one cell? -/
def AV.one : AV → Bool
  | .agg _ => false
  | .tup _ => false
  | .any => false
  | .hole _ => false
  | _ => true

/-- The cells of a value that may be stored. -/
def AV.cellsOf : AV → Option (List AV)
  | .agg cs => some cs
  | v => if v.one then some [v] else none

/-- A copy does not take the spare places along. -/
def AV.untip : AV → AV
  | .gsl e vs => .sl e vs
  | v => v

/-- A block of the evaluation's own: its cells; as a row: the cells of an element, and whether an element is a struct or an array. -/
structure Blk where
  cells : List AV
  esz : Nat
  ag : Bool
  ro : Bool
  deriving Inhabited

abbrev Store := List Blk

/-- A block that is in memory. (A block whose elements have no cells is not there yet.) -/
def getB (h : Store) (b : Nat) : Option Blk :=
  match h[b]? with
  | some blk => if blk.esz = 0 then none else some blk
  | none => none

theorem getB_some {h : Store} {b : Nat} {blk : Blk} (hb : getB h b = some blk) : h[b]? = some blk ∧ blk.esz ≠ 0 := by
  unfold getB at hb
  split at hb
  · rename_i b0 h0
    split at hb
    · cases hb
    · rename_i hz; cases hb; exact ⟨h0, hz⟩
  · cases hb

/-- Is there no address of an own block in it? -/
def AV.closedN : Nat → AV → Bool
  | 0, _ => false
  | _ + 1, .osl .. => false
  | _ + 1, .ref .. => false
  | _ + 1, .gsl .. => false
  | d + 1, .agg cs => cs.all (AV.closedN d)
  | d + 1, .tup cs => cs.all (AV.closedN d)
  | d + 1, .fn _ first caps => first.all (AV.closedN d) && caps.all (AV.closedN d)
  | d + 1, .iface _ v => AV.closedN d v
  | _ + 1, _ => true

def AV.closed (v : AV) : Bool := AV.closedN 4 v

/-- The elements of a row of cells. -/
def chunks (ag : Bool) (esz : Nat) : Nat → List AV → List AV
  | 0, _ => []
  | n + 1, cs => (if ag then .agg (cs.take esz) else cs.headD .any) :: chunks ag esz n (cs.drop esz)

/-- The value as data alone. -/
def freezeN (h : Store) : Nat → AV → Option AV
  | 0, _ => none
  | d + 1, v =>
    match v with
    | .osl b off len _ =>
      match getB h b with
      | some blk => if off + len * blk.esz ≤ blk.cells.length then ((blk.cells.drop off).take (len * blk.esz)).mapM (freezeN h d) |>.map fun cs => .sl blk.esz (chunks blk.ag blk.esz len cs) else none
      | none => none
    | .ref .. => none
    | .gsl e vs => some (.sl e vs)
    | .agg cs => (cs.mapM (freezeN h d)).map .agg
    | .tup cs => (cs.mapM (freezeN h d)).map .tup
    | .fn f first caps => (first.mapM (freezeN h d)).bind fun a => (caps.mapM (freezeN h d)).map fun b => .fn f a b
    | .iface t v => (freezeN h d v).map (.iface t)
    | v => some v

def freeze (h : Store) (v : AV) : Option AV := freezeN h 8 v

/-- No slice, no address in it: what a copy of it shares memory with nobody. -/
def AV.flatN : Nat → AV → Bool
  | 0, _ => false
  | _ + 1, .bool _ => true
  | _ + 1, .int .. => true
  | _ + 1, .str _ => true
  | _ + 1, .nilp => true
  | _ + 1, .nilf => true
  | _ + 1, .nili => true
  | _ + 1, .nils => true
  | d + 1, .agg cs => cs.all (AV.flatN d)
  | d + 1, .tup cs => cs.all (AV.flatN d)
  | d + 1, .iface _ v => AV.flatN d v
  | _ + 1, _ => false

def AV.flat (v : AV) : Bool := AV.flatN 4 v

/-- The own blocks that a value reaches. -/
def reachN (h : Store) : Nat → AV → List Nat
  | 0, _ => []
  | d + 1, v =>
    match v with
    | .osl b _ _ _ => b :: (match getB h b with | some blk => blk.cells.flatMap (reachN h d) | none => [])
    | .ref b _ => b :: (match getB h b with | some blk => blk.cells.flatMap (reachN h d) | none => [])
    | .agg cs => cs.flatMap (reachN h d)
    | .tup cs => cs.flatMap (reachN h d)
    | .fn _ first caps => first.flatMap (reachN h d) ++ caps.flatMap (reachN h d)
    | .iface _ v => reachN h d v
    | _ => []

def sealAll (h : Store) (l : List Nat) : Store := l.foldl (fun h b => h.modify b fun blk => { blk with ro := true }) h

/-- The greatest length of a slice that is made or appended to. -/
def LIM : Nat := 17179869184

/-- A constant of one cell. -/
inductive KV where
  | tf (t : Bool)
  | i (k : IntKind) (n : Int)
  | s (l : List UInt8)
  | nilp
  | nilf
  | nili
  | nils
  deriving DecidableEq, Inhabited

def KV.av : KV → AV
  | .tf b => .bool b
  | .i k n => .int k n
  | .s l => .str l
  | .nilp => .nilp
  | .nilf => .nilf
  | .nili => .nili
  | .nils => .nils

inductive POpd where
  | s (n : Nat)
  | k (v : KV)
  | f (g : Nat)
  | gv (n : Nat)
  deriving Inhabited

def POpd.get (sl : List AV) : POpd → AV
  | .s n => sl.getD n .any
  | .k v => v.av
  | .f g => .fn g [] []
  | .gv n => .gptr n 0

inductive CK where
  | tb | ti | ts
  deriving DecidableEq, Inhabited

inductive EqK where
  | bool | ptr | slice | func | iface
  | plain (ks : List CK)
  deriving DecidableEq, Inhabited

inductive PConv where
  | int (k : IntKind)
  | same
  | bytesStr
  | strBytes
  deriving Inhabited

inductive POp where
  | mv (x : POpd)
  | tk (n : Nat)
  | pick (c a b : POpd)
  | alloc (esz : Nat) (ag : Bool) (zero : List KV)
  | box (esz : Nat) (ag : Bool) (sz : Nat) (x : POpd)
  | build (zero : List KV) (parts : List (Nat × Nat × POpd))
  | buildSl (own : Bool) (esz : Nat) (ag : Bool) (len : Nat) (zero : List KV) (parts : List (Nat × POpd))
  | allocH (d esz : Nat) (ag : Bool) (zero : List KV)
  | buildZ (esz : Nat)
  | load (ag : Bool) (sz : Nat) (x : POpd)
  | loadD (q : Nat) (ag : Bool) (sz : Nat) (x : POpd)
  | store (sz : Nat) (a v : POpd)
  | loadT (x : POpd)
  | storeT (a : POpd) (n : Nat)
  | nilchk (x : POpd)
  | bin (op : BinOp) (x y : POpd)
  | eqv (neg : Bool) (k : EqK) (x y : POpd)
  | un (op : UnOp) (x : POpd)
  | conv (c : PConv) (x : POpd)
  | mkif (t : Nat) (x : POpd)
  | mkfn (f : Nat) (first caps : List POpd)
  | mksl (own : Bool) (esz : Nat) (ag : Bool) (zero : List KV) (len cap : POpd)
  | slstr (x : POpd) (lo hi : Option POpd)
  | slsl (esz : Nat) (x : POpd) (lo hi mx : Option POpd)
  | slz (esz : Nat) (x : POpd)
  | slarr (n esz : Nat) (x : POpd) (lo hi mx : Option POpd)
  | faddr (off : Nat) (x : POpd)
  | field (ag : Bool) (off sz : Nat) (x : POpd)
  | iarr (n esz : Nat) (x i : POpd)
  | isl (esz : Nat) (x i : POpd)
  | ixarr (n esz : Nat) (ag : Bool) (x i : POpd)
  | ixstr (x i : POpd)
  | ext (x : POpd) (i : Nat)
  | len (str : Bool) (x : POpd)
  | lenc (n : Nat)
  | max (xs : List POpd)
  | min (xs : List POpd)
  | app (esz : Nat) (s x : POpd)
  | appo (esz : Nat) (ag : Bool) (s x : POpd)
  | callq (g : Nat) (args : List POpd)
  | callqs (g : Nat) (args : List POpd)
  | callm (g : Nat) (args : List POpd)
  | callk (g : Nat) (args : List POpd)
  | callv (f : POpd) (args : List POpd)
  | bad
  deriving Inhabited

/-- What the calls inside an evaluation give: as data; on the common memory, with what the call made left behind; the same with it kept; and what the program's tables hold. -/
structure Env where
  q : Nat → List AV → Option AV
  m : Nat → List AV → Store → Option (AV × Store)
  k : Nat → List AV → Store → Option (AV × Store)
  g : Nat → Option (List AV)

def scalarEq : CK → AV → AV → Option Bool
  | .tb, .bool a, .bool b => some (a == b)
  | .ti, .int k a, .int k' b => if k = k' then some (a == b) else none
  | .ts, .str a, .str b => some (a == b)
  | _, _, _ => none

def eqCells : List CK → List AV → List AV → Option Bool
  | [], [], [] => some true
  | k :: ks, x :: xs, y :: ys => (scalarEq k x y).bind fun b => (eqCells ks xs ys).map fun c => b && c
  | _, _, _ => none

def evEq : EqK → AV → AV → Option Bool
  | .bool, .bool a, .bool b => some (a == b)
  | .ptr, .nilp, .nilp => some true
  | .ptr, .nilp, .ref .. => some false
  | .ptr, .ref .., .nilp => some false
  | .slice, .nils, .nils => some true
  | .slice, .sl .., .nils => some false
  | .slice, .gsl .., .nils => some false
  | .slice, .osl .., .nils => some false
  | .func, .nilf, .nilf => some true
  | .func, .fn .., .nilf => some false
  | .iface, .nili, .nili => some true
  | .iface, .iface .., .nili => some false
  | .plain ks, .agg xs, .agg ys => eqCells ks xs ys
  | _, _, _ => none

def evInt (op : BinOp) (k : IntKind) (a b : Int) : Option AV :=
  match op with
  | .add => some (.int k (k.wrap (a + b)))
  | .sub => some (.int k (k.wrap (a - b)))
  | .mul => some (.int k (k.wrap (a * b)))
  | .quo => if b = 0 then none else some (.int k (k.wrap (a.tdiv b)))
  | .rem => if b = 0 then none else some (.int k (a.tmod b))
  | .and => some (.int k (k.wrap (BitVec.ofInt k.bits a &&& BitVec.ofInt k.bits b).toNat))
  | .or => some (.int k (k.wrap (BitVec.ofInt k.bits a ||| BitVec.ofInt k.bits b).toNat))
  | .xor => some (.int k (k.wrap (BitVec.ofInt k.bits a ^^^ BitVec.ofInt k.bits b).toNat))
  | .andNot => some (.int k (k.wrap (BitVec.ofInt k.bits a &&& ~~~ BitVec.ofInt k.bits b).toNat))
  | .eql => some (.bool (a == b))
  | .neq => some (.bool (a != b))
  | .lss => some (.bool (a < b))
  | .leq => some (.bool (a ≤ b))
  | .gtr => some (.bool (a > b))
  | .geq => some (.bool (a ≥ b))
  | _ => none

def evStr (op : BinOp) (a b : List UInt8) : Option AV :=
  match op with
  | .add => if a.length + b.length ≤ 4611686018427387904 then some (.str (a ++ b)) else none
  | .eql => some (.bool (a == b))
  | .neq => some (.bool (!(a == b)))
  | .lss => some (.bool (Op.bytesLess a b))
  | .leq => some (.bool (Op.bytesLess a b || a == b))
  | .gtr => some (.bool (!(Op.bytesLess a b || a == b)))
  | .geq => some (.bool (!Op.bytesLess a b))
  | _ => none

def evBin (op : BinOp) (x y : AV) : Option AV :=
  match x, y with
  | .int k a, .int k' b =>
    match op with
    | .shl => if b < 0 then none else some (.int k (k.wrap (a * 2 ^ (Min.min b.toNat k.bits))))
    | .shr => if b < 0 then none else some (.int k (a.fdiv (2 ^ (Min.min b.toNat k.bits))))
    | op => if k = k' then evInt op k a b else none
  | .str a, .str b => evStr op a b
  | _, _ => none

def evUn (op : UnOp) (x : AV) : Option AV :=
  match op, x with
  | .neg, .int k n => some (.int k (k.wrap (0 - n)))
  | .xor, .int k n => some (.int k (k.wrap (BitVec.ofInt k.bits (if k.signed then -1 else k.max) ^^^ BitVec.ofInt k.bits n).toNat))
  | .not, .bool b => some (.bool !b)
  | _, _ => none

def bytesOf : List AV → Option (List UInt8)
  | [] => some []
  | .int .u8 n :: r => if 0 ≤ n ∧ n < 256 then (bytesOf r).map fun s => UInt8.ofNat n.toNat :: s else none
  | _ :: _ => none

/-- The elements of a slice, as they stand. -/
def elems (h : Store) : AV → Option (List AV)
  | .nils => some []
  | .sl _ vs => some vs
  | .gsl _ vs => some vs
  | .osl b off len _ =>
    match getB h b with
    | some blk => if off + len * blk.esz ≤ blk.cells.length then some (chunks blk.ag blk.esz len (blk.cells.drop off)) else none
    | none => none
  | _ => none

def eszIs (h : Store) (esz : Nat) : AV → Bool
  | .nils => true
  | .sl e _ => e == esz
  | .gsl e _ => e == esz
  | .osl b _ _ _ => match getB h b with | some blk => blk.esz == esz | none => false
  | _ => false

/-- What an append's second operand bears. -/
def news (h : Store) (esz : Nat) : AV → Option (List AV)
  | .str t => if esz = 1 then some (t.map fun (b : UInt8) => AV.int .u8 b.toNat) else none
  | v => if eszIs h esz v then elems h v else none

def evConv (h : Store) (c : PConv) (x : AV) : Option AV :=
  match c, x with
  | .int k, .int _ n => some (.int k (k.wrap n))
  | .same, .str s => some (.str s)
  | .bytesStr, x => if eszIs h 1 x then ((elems h x).bind bytesOf).map .str else none
  | .strBytes, .str s => if s.length ≤ LIM then some (.gsl 1 (s.map fun (b : UInt8) => AV.int .u8 b.toNat)) else none
  | _, _ => none

def asIdx (x : AV) : Option Nat :=
  match x with
  | .int _ n => if 0 ≤ n then some n.toNat else none
  | _ => none

/-- The bounds of a slicing: low, high, and the greatest length. -/
def bounds (sl : List AV) (len cap : Nat) (lo hi mx : Option POpd) : Option (Nat × Nat × Nat) :=
  (match mx with | none => some cap | some x => (asIdx (x.get sl)).bind fun m => if m ≤ cap then some m else none).bind fun m =>
  (match hi with | none => some len | some x => (asIdx (x.get sl)).bind fun n => if n ≤ m then some n else none).bind fun n =>
  (match lo with | none => some 0 | some x => (asIdx (x.get sl)).bind fun l => if l ≤ n then some l else none).map fun l => (l, n, m)

/-- The part of a value's cells. -/
def partOf (ag : Bool) (sz off : Nat) (v : AV) : Option AV :=
  if ag then
    match v with
    | .agg cs => if off = 0 ∧ cs.length = sz then some (.agg cs) else if off + sz ≤ cs.length then some (.agg ((cs.drop off).take sz)) else none
    | _ => none
  else match v with
    | .agg cs => cs[off]?
    | v => if off = 0 then some v else none

def splice (cs : List AV) (off : Nat) (vs : List AV) : List AV := cs.take off ++ vs ++ cs.drop (off + vs.length)

/-- The addresses below a number alone. -/
def AV.lowerN (n : Nat) : Nat → AV → Bool
  | 0, _ => false
  | _ + 1, .osl b .. => b < n
  | _ + 1, .ref b _ => b < n
  | d + 1, .agg cs => cs.all (AV.lowerN n d)
  | d + 1, .tup cs => cs.all (AV.lowerN n d)
  | d + 1, .fn _ first caps => first.all (AV.lowerN n d) && caps.all (AV.lowerN n d)
  | d + 1, .iface _ v => AV.lowerN n d v
  | _ + 1, _ => true

def AV.lower (n : Nat) (v : AV) : Bool := AV.lowerN n 4 v

def fillParts (sl : List AV) : List (Nat × Nat × POpd) → List AV → Option (List AV)
  | [], cs => some cs
  | (off, sz, x) :: rest, cs =>
    match (x.get sl).cellsOf with
    | some v => if v.length = sz ∧ off + sz ≤ cs.length then fillParts sl rest (splice cs off (v.map AV.untip)) else none
    | none => none

def evMax : AV → AV → Option AV
  | .int k x, .int _ y => some (.int k (if y > x then y else x))
  | _, _ => none

def evMin : AV → AV → Option AV
  | .int k x, .int _ y => some (.int k (if y < x then y else x))
  | _, _ => none

/-- One operation: its value, and the blocks behind it. 'base': the number of blocks when the function was entered. -/
def evOp (C : Env) (base : Nat) (op : POp) (sl : List AV) (h : Store) : Option (AV × Store) :=
  match op with
  | .mv x => some ((x.get sl).untip, h)
  | .tk n => some (sl.getD n .any, h)
  | .pick c a b =>
    match c.get sl with
    | .bool true => some ((a.get sl).untip, h)
    | .bool false => some ((b.get sl).untip, h)
    | _ => none
  | .alloc esz ag zero => some (.ref h.length 0, h ++ [⟨zero.map KV.av, esz, ag, false⟩])
  | .box esz ag sz x =>
    match (x.get sl).cellsOf with
    | some cs => if cs.length = sz then some (.ref h.length 0, h ++ [⟨cs.map AV.untip, esz, ag, false⟩]) else none
    | none => none
  | .build zero parts => (fillParts sl parts (zero.map KV.av)).map fun cs => (.agg cs, h)
  | .buildSl own esz ag len zero parts =>
    (fillParts sl (parts.map fun p => (p.1 * esz, esz, p.2)) (List.replicate len (zero.map KV.av)).flatten).bind fun cs =>
      if own then some (.osl h.length 0 len len, h ++ [⟨cs, esz, ag, false⟩])
      else if cs.all AV.closed then some (.gsl esz (chunks ag esz len cs), h) else none
  | .buildZ esz => some (.z esz, h)
  | .load ag sz x =>
    match x.get sl with
    | .ref b off =>
      match getB h b with
      | some blk => (partOf ag sz off (.agg blk.cells)).map fun v => (if ag then .agg (v.cells.map AV.untip) else v.untip, h)
      | none => none
    | .eref cs off => (partOf ag sz off (.agg cs)).map fun v => (v, h)
    | .gptr g off =>
      match C.g g with
      | some cs => (partOf ag sz off (.agg cs)).map fun v => (v, h)
      | none => none
    | _ => none
  | .allocH d esz ag zero =>
    match sl.getD d .any with
    | .hole n =>
      match h[n]? with
      | some blk => if blk.esz = 0 ∧ base ≤ n ∧ esz ≠ 0 then some (.ref n 0, h.set n ⟨zero.map KV.av, esz, ag, false⟩) else none
      | none => none
    | _ => none
  | .loadD q ag sz x =>
    match sl.getD q .any, x.get sl with
    | .ref b' _, .ref b off =>
      if b' = b then none else
      match getB h b with
      | some blk => (partOf ag sz off (.agg blk.cells)).map fun v => (if ag then .agg (v.cells.map AV.untip) else v.untip, h)
      | none => none
    | _, _ => none
  | .store sz a v =>
    match a.get sl with
    | .ref b off =>
      match getB h b, (v.get sl).cellsOf with
      | some blk, some cs =>
        if blk.ro = false ∧ cs.length = sz ∧ off + sz ≤ blk.cells.length ∧ (base ≤ b ∨ (v.get sl).lower 0 = true) then
          some (.tup [], h.set b { blk with cells := splice blk.cells off (cs.map AV.untip) })
        else none
      | _, _ => none
    | _ => none
  | .loadT x =>
    match x.get sl with
    | .ref b off =>
      match getB h b with
      | some blk =>
        match blk.cells[off]? with
        | some v => some (v, h.set b { blk with cells := blk.cells.set off v.untip })
        | none => none
      | none => none
    | _ => none
  | .storeT a n =>
    match a.get sl with
    | .ref b off =>
      match getB h b with
      | some blk =>
        if blk.ro = false ∧ off < blk.cells.length ∧ (sl.getD n .any).one = true ∧ (base ≤ b ∨ (sl.getD n .any).lower 0 = true) then
          some (.tup [], h.set b { blk with cells := blk.cells.set off (sl.getD n .any) })
        else none
      | none => none
    | _ => none
  | .nilchk x =>
    match x.get sl with
    | .ref b o => some (.ref b o, h)
    | .eref cs o => some (.eref cs o, h)
    | .gptr g o => some (.gptr g o, h)
    | .fn f a b => some (.fn f a b, h)
    | _ => none
  | .bin op x y => (evBin op (x.get sl) (y.get sl)).map fun v => (v, h)
  | .eqv neg k x y => (evEq k (x.get sl) (y.get sl)).map fun b => (.bool (if neg then !b else b), h)
  | .un op x => (evUn op (x.get sl)).map fun v => (v, h)
  | .conv c x => (evConv h c (x.get sl)).map fun v => (v, h)
  | .mkif t x => if (x.get sl).closed then some (.iface t (x.get sl), h) else none
  | .mkfn f first caps => some (.fn f (first.map fun x => (x.get sl).untip) (caps.map fun x => (x.get sl).untip), h)
  | .mksl own esz ag zero len cap =>
    match asIdx (len.get sl), asIdx (cap.get sl) with
    | some l, some c =>
      if l ≤ c ∧ c ≤ LIM then
        if own then some (.osl h.length 0 l c, h ++ [⟨(List.replicate c (zero.map KV.av)).flatten, esz, ag, false⟩])
        else some (.gsl esz (List.replicate l (if ag then .agg (zero.map KV.av) else (zero.map KV.av).headD .any)), h)
      else none
    | _, _ => none
  | .slstr x lo hi =>
    match x.get sl with
    | .str s => (bounds sl s.length s.length lo hi none).map fun (l, n, _) => (.str ((s.take n).drop l), h)
    | _ => none
  | .slsl esz x lo hi mx =>
    match x.get sl with
    | .nils => (bounds sl 0 0 lo hi mx).map fun _ => (.nils, h)
    | .sl e vs => if e = esz then (bounds sl vs.length vs.length lo hi mx).map fun (l, n, m) => (if mx.isSome ∧ n = m then .gsl e ((vs.take n).drop l) else .sl e ((vs.take n).drop l), h) else none
    | .gsl e vs => if e = esz then (bounds sl vs.length vs.length lo hi mx).map fun (l, n, m) => (if mx.isSome ∧ n = m then .gsl e ((vs.take n).drop l) else .sl e ((vs.take n).drop l), h) else none
    | .osl b off len cap =>
      match getB h b with
      | some blk => if blk.esz = esz then (bounds sl len cap lo hi mx).map fun (l, n, m) => (.osl b (off + l * esz) (n - l) (m - l), h) else none
      | none => none
    | _ => none
  | .slz esz x =>
    match x.get sl with
    | .nils => some (.nils, h)
    | .sl e _ => if e = esz then some (.z esz, h) else none
    | .gsl e _ => if e = esz then some (.z esz, h) else none
    | .osl b _ _ _ =>
      match getB h b with
      | some blk => if blk.esz = esz then some (.z esz, h) else none
      | none => none
    | _ => none
  | .slarr n esz x lo hi mx =>
    match x.get sl with
    | .ref b off =>
      match getB h b with
      | some blk => if blk.esz = esz ∧ off + n * esz ≤ blk.cells.length then (bounds sl n n lo hi mx).map fun (l, k, m) => (.osl b (off + l * esz) (k - l) (m - l), h) else none
      | none => none
    | _ => none
  | .faddr off x =>
    match x.get sl with
    | .ref b o => some (.ref b (o + off), h)
    | .eref cs o => some (.eref cs (o + off), h)
    | .gptr g o => some (.gptr g (o + off), h)
    | _ => none
  | .field ag off sz x =>
    match x.get sl with
    | .agg cs => (partOf ag sz off (.agg cs)).map fun v => (if ag then .agg (v.cells.map AV.untip) else v.untip, h)
    | _ => none
  | .iarr n esz x i =>
    match asIdx (i.get sl) with
    | some j =>
      if j < n then
        match x.get sl with
        | .ref b o => some (.ref b (o + j * esz), h)
        | .eref cs o => some (.eref cs (o + j * esz), h)
        | .gptr g o => some (.gptr g (o + j * esz), h)
        | _ => none
      else none
    | none => none
  | .isl esz x i =>
    match asIdx (i.get sl) with
    | some j =>
      match x.get sl with
      | .sl e vs => if e = esz then (vs[j]?).map fun v => (.eref v.cells 0, h) else none
      | .gsl e vs => if e = esz then (vs[j]?).map fun v => (.eref v.cells 0, h) else none
      | .osl b off len _ =>
        match getB h b with
        | some blk => if blk.esz = esz ∧ j < len then some (.ref b (off + j * esz), h) else none
        | none => none
      | _ => none
    | none => none
  | .ixarr n esz ag x i =>
    match asIdx (i.get sl), x.get sl with
    | some j, .agg cs => if j < n then (partOf ag esz (j * esz) (.agg cs)).map fun v => (if ag then .agg (v.cells.map AV.untip) else v.untip, h) else none
    | _, _ => none
  | .ixstr x i =>
    match asIdx (i.get sl), x.get sl with
    | some j, .str s => (s[j]?).map fun b => (.int .u8 b.toNat, h)
    | _, _ => none
  | .ext x i =>
    match x.get sl with
    | .tup vs => (vs[i]?).map fun v => (v.untip, h)
    | _ => none
  | .len str x =>
    match str, x.get sl with
    | true, .str s => some (.int .i64 s.length, h)
    | false, .nils => some (.int .i64 0, h)
    | false, .sl _ vs => some (.int .i64 vs.length, h)
    | false, .gsl _ vs => some (.int .i64 vs.length, h)
    | false, .osl _ _ len _ => some (.int .i64 len, h)
    | _, _ => none
  | .lenc n => some (.int .i64 n, h)
  | .max xs =>
    match xs.map (POpd.get sl) with
    | x :: r => (r.foldlM evMax x).map fun v => (v, h)
    | [] => none
  | .min xs =>
    match xs.map (POpd.get sl) with
    | x :: r => (r.foldlM evMin x).map fun v => (v, h)
    | [] => none
  | .app esz s x =>
    match news h esz (x.get sl) with
    | some ws =>
      if ws.all AV.closed then
        match s.get sl with
        | .nils => if ws.length ≤ LIM then some (if ws = [] then .nils else .gsl esz ws, h) else none
        | .gsl e vs => if e = esz ∧ vs.length + ws.length ≤ LIM then some (.gsl esz (vs ++ ws), h) else none
        | _ => none
      else none
    | none => none
  | .appo esz ag s x =>
    match news h esz (x.get sl) with
    | some ws =>
      if ws.all AV.closed = true ∧ ws.length ≤ LIM then
        match s.get sl with
        | .nils => if ws = [] then some (.nils, h) else some (.osl h.length 0 ws.length ws.length, h ++ [⟨ws.flatMap AV.cells, esz, ag, false⟩])
        | .z e => if e = esz then if ws = [] then some (.sl esz [], h) else some (.osl h.length 0 ws.length ws.length, h ++ [⟨ws.flatMap AV.cells, esz, ag, false⟩]) else none
        | _ => none
      else none
    | none => none
  | .callq g args => (args.mapM fun x => freeze h (x.get sl)).bind fun vs => (C.q g vs).bind fun v => if (args.flatMap (fun x => reachN h 8 (x.get sl))).isEmpty || v.flat then some (v, h) else none
  | .callqs g args => (args.mapM fun x => freeze h (x.get sl)).bind fun vs => (C.q g vs).map fun v => (v, sealAll h (args.flatMap fun x => reachN h 8 (x.get sl)))
  | .callm g args => C.m g (args.map fun x => (x.get sl).untip) h
  | .callk g args => C.k g (args.map fun x => (x.get sl).untip) h
  | .callv f args =>
    match f.get sl with
    | .fn g first caps => C.m g (first.map AV.untip ++ args.map (fun x => (x.get sl).untip) ++ caps.map AV.untip) h
    | _ => none
  | .bad => none

structure PRow where
  dst : Option Nat
  grd : Option (Nat × Bool)
  op : POp
  deriving Inhabited

instance (n : Nat) : OfNat POpd n := ⟨.s n⟩

/-- Short words for the printed code. -/
abbrev ci (n : Int) : POpd := .k (.i .i64 n)
abbrev ck (k : IntKind) (n : Int) : POpd := .k (.i k n)
abbrev cb (b : Bool) : POpd := .k (.tf b)
abbrev cs (l : List UInt8) : POpd := .k (.s l)
abbrev rw' (d : Nat) (o : POp) : PRow := ⟨some d, none, o⟩
abbrev rg (d j : Nat) (b : Bool) (o : POp) : PRow := ⟨some d, some (j, b), o⟩
abbrev rn (o : POp) : PRow := ⟨none, none, o⟩

abbrev St := List AV × Store

/-- The slots behind an operation. -/
def putRes (r : PRow) (v : AV) (sl : List AV) : List AV :=
  let sl := match r.op with | .tk n => sl.set n (sl.getD n .any).untip | .app _ (.s n) _ => sl.set n (sl.getD n .any).untip | .storeT _ n => sl.set n (sl.getD n .any).untip | _ => sl
  match r.dst with | some d => sl.set d v | none => sl

def skipRes (r : PRow) (sl : List AV) : List AV :=
  match r.dst with | some d => sl.set d (.tup []) | none => sl

def runRow (C : Env) (base : Nat) (r : PRow) (st : St) : Option St :=
  (evOp C base r.op st.1 st.2).map fun x => (putRes r x.1 st.1, x.2)

def evRow (C : Env) (base : Nat) (r : PRow) (st : St) : Option St :=
  match r.grd with
  | none => runRow C base r st
  | some (j, want) =>
    match st.1.getD j .any with
    | .bool b => if b = want then runRow C base r st else some (skipRes r st.1, st.2)
    | .tup [] => some (skipRes r st.1, st.2)
    | _ => none

def evRows (C : Env) (base : Nat) : List PRow → St → Option St
  | [], st => some st
  | r :: rs, st => (evRow C base r st).bind (evRows C base rs)

/-- 'rows': a region; 'loop keep body': at the head of each round the slots that are not kept are forgotten; 'holes': the slots get numbers for blocks that the code makes. -/
inductive PCode where
  | skip
  | rows (l : List PRow)
  | seq (a b : PCode)
  | cond (c : POpd) (a b : PCode)
  | block (id : Nat) (a : PCode)
  | loop (keep : List Bool) (a : PCode)
  | holes (ds : List Nat) (a : PCode)
  | exit (id : Nat)
  | ret
  | bad
  deriving Inhabited

inductive Ex where
  | nrm
  | exit (id : Nat)
  | ret
  deriving DecidableEq, Inhabited

/-- The slots that a loop keeps. -/
def kp (n : Nat) (ks : List Nat) : List Bool := (List.range n).map fun i => ks.contains i

def forgetL : List Bool → List AV → List AV
  | k :: ks, v :: vs => (if k then v else .any) :: forgetL ks vs
  | _, vs => vs

def forgetBut (keep : List Bool) (st : St) : St := (forgetL keep st.1, st.2)

def loopN (f : St → Option (Ex × St)) : Nat → St → Option (Ex × St)
  | 0, _ => none
  | n + 1, st =>
    match f st with
    | some (.nrm, st') => loopN f n st'
    | r => r

/-- Numbers for blocks to come. -/
def mkHoles : List Nat → St → St
  | [], st => st
  | d :: ds, st => mkHoles ds (st.1.set d (.hole st.2.length), st.2 ++ [⟨[], 0, true, false⟩])

def evCode (C : Env) (base n : Nat) : PCode → St → Option (Ex × St)
  | .skip, st => some (.nrm, st)
  | .rows l, st => (evRows C base l st).map fun s => (.nrm, s)
  | .seq a b, st =>
    match evCode C base n a st with
    | some (.nrm, st') => evCode C base n b st'
    | r => r
  | .cond c a b, st =>
    match c.get st.1 with
    | .bool t => if t then evCode C base n a st else evCode C base n b st
    | _ => none
  | .block id a, st =>
    match evCode C base n a st with
    | some (.exit i, st') => if i = id then some (.nrm, st') else some (.exit i, st')
    | r => r
  | .loop keep a, st => loopN (fun s => evCode C base n a (forgetBut keep s)) n st
  | .holes ds a, st => evCode C base n a (mkHoles ds st)
  | .exit id, st => some (.exit id, st)
  | .ret, st => some (.ret, st)
  | .bad, _ => none

inductive PRes where
  | slot (n : Nat)
  | cell (n : Nat) (ag : Bool) (sz : Nat)
  deriving Inhabited

structure PFun where
  nt : Nat
  res : List PRes
  body : PCode
  deriving Inhabited

def PRes.get (st : St) : PRes → Option AV
  | .slot n => some (st.1.getD n .any)
  | .cell n ag sz =>
    match st.1.getD n .any with
    | .ref b off =>
      match getB st.2 b with
      | some blk => (partOf ag sz off (.agg blk.cells)).map fun v => if ag then .agg (v.cells.map AV.untip) else v.untip
      | none => none
    | _ => none

def one? : List AV → AV
  | [v] => v
  | vs => .tup vs

def finish (F : PFun) (r : Option (Ex × St)) : Option (AV × Store) :=
  match r with
  | some (.exit _, _) => none
  | some (_, st) => (F.res.mapM (PRes.get st)).map fun vs => (one? vs, st.2)
  | none => none

def start (F : PFun) (args : List AV) (h : Store) : St := (args ++ List.replicate (F.nt - args.length) (.tup []), h)

def evFun (C : Env) (n : Nat) (F : PFun) (args : List AV) (h : Store) : Option (AV × Store) :=
  finish F (evCode C h.length n F.body (start F args h))

inductive Ent where
  | code (F : PFun)
  | prim (f : List AV → Option AV)

/-- A call whose result is data and which leaves nothing of its own behind. -/
def outM (h : Store) (x : Option (AV × Store)) : Option (AV × Store) :=
  x.bind fun (r, h') => if (reachN h' 8 r).all (fun b => decide (h.length ≤ b)) then (freeze h' r).map fun v => (v, h'.take h.length) else none

def outQ (x : Option (AV × Store)) : Option AV := x.bind fun (r, h') => freeze h' r

def env (T : Nat → Option Ent) (G : Nat → Option (List AV)) : Nat → Env
  | 0 => { q := fun _ _ => none, m := fun _ _ _ => none, k := fun _ _ _ => none, g := G }
  | n + 1 =>
    let C := env T G n
    { q := fun g args => match T g with | some (.code F) => outQ (evFun C n F args []) | some (.prim f) => f args | none => none
      m := fun g args h => match T g with | some (.code F) => outM h (evFun C n F args h) | _ => none
      k := fun g args h => match T g with | some (.code F) => evFun C n F args h | _ => none
      g := G }

end Go.Proofs.YteaopgkajbfkeaaGreatDoor
namespace Go.Proofs.YteaopgkajbfkeaaGreatDoor
open Go Go.RowKit

/-- What a block of memory is to the evaluation: never written again; written from a place on by one value's owner; the block of its own with a number. -/
inductive Role where
  | imm
  | tip (hw : Nat)
  | own (b : Nat)
  | out

structure Gh where
  role : Nat → Role
  loc : Nat → Option Nat

def Gh.I (G : Gh) (k o : Nat) : Prop :=
  match G.role k with
  | .imm => True
  | .tip hw => o < hw
  | .own _ => False
  | .out => False

def Reads (w : World) (G : Gh) (k o : Nat) (xs : List Value) : Prop :=
  ∀ (j : Nat) x, xs[j]? = some x → w.cell? ⟨k, o + j, none⟩ = some x ∧ G.I k (o + j)

mutual
inductive VC (w : World) (G : Gh) : AV → Value → Prop
  | bool (b : Bool) : VC w G (.bool b) (.bool b)
  | int (k : IntKind) (n : Int) : VC w G (.int k n) (.int k n)
  | str (s : List UInt8) : VC w G (.str s) (.string ⟨⟨s⟩⟩)
  | nilp : VC w G .nilp (.pointer none)
  | nilf : VC w G .nilf .nilFunc
  | nili : VC w G .nili .nilIface
  | nils : VC w G .nils (.slice none 0 0)
  | agg {cs : List AV} {xs : List Value} (h : VCs w G cs xs) (ho : cs.all AV.one = true) : VC w G (.agg cs) (.agg ⟨xs⟩)
  | tup {cs : List AV} {xs : List Value} (h : VCs w G cs xs) : VC w G (.tup cs) (.tuple ⟨xs⟩)
  | sl {esz : Nat} {vs : List AV} {xs : List Value} {k o cap : Nat} {sp : Option Nat} (hz : 0 < esz) (hc : vs.length ≤ cap) (hl : ∀ v ∈ vs, v.cells.length = esz)
      (ho : (vs.flatMap AV.cells).all AV.one = true) (hr : Reads w G k o xs) (h : VCs w G (vs.flatMap AV.cells) xs) (hs : sp = none ∨ cap = 0) :
      VC w G (.sl esz vs) (.slice (some ⟨k, o, sp⟩) vs.length cap)
  | eref {cs : List AV} {xs : List Value} {k o off : Nat} (ho : cs.all AV.one = true) (hr : Reads w G k o xs) (h : VCs w G cs xs) :
      VC w G (.eref cs off) (.pointer (some ⟨k, o + off, none⟩))
  | fn (f : Nat) {a b : List AV} {xs ys : List Value} (h : VCs w G a xs) (h' : VCs w G b ys) : VC w G (.fn f a b) (.func (.func f) ⟨xs⟩ ⟨ys⟩)
  | iface (t : Nat) {v : AV} {x : Value} (h : VC w G v x) : VC w G (.iface t v) (.iface t x)
  | gptr (g off : Nat) : VC w G (.gptr g off) (.pointer (some ⟨g, off, none⟩))
  | any (x : Value) : VC w G .any x
  | hole (n : Nat) (x : Value) : VC w G (.hole n) x
  | z (e k o : Nat) (sp : Option Nat) : VC w G (.z e) (.slice (some ⟨k, o, sp⟩) 0 0)
inductive VCs (w : World) (G : Gh) : List AV → List Value → Prop
  | nil : VCs w G [] []
  | cons {v : AV} {x : Value} {vs : List AV} {xs : List Value} (h : VC w G v x) (t : VCs w G vs xs) : VCs w G (v :: vs) (x :: xs)
end

mutual
inductive VR (w : World) (G : Gh) : AV → Value → Prop
  | c {v : AV} {x : Value} (h : VC w G v x) : VR w G v x
  | gsl {e : Nat} {vs : List AV} {x : Value} (h : VC w G (.sl e vs) x) : VR w G (.gsl e vs) x
  | osl {b off len cap : Nat} {a : Addr} {cap' : Nat} (hs : a.spot = none) (hl : len ≤ cap) (hc : cap ≤ cap')
      (ha : 0 < cap → ∃ r, G.loc b = some r ∧ a = ⟨r, off, none⟩) : VR w G (.osl b off len cap) (.slice (some a) len cap')
  | ref {b off r : Nat} (h : G.loc b = some r) : VR w G (.ref b off) (.pointer (some ⟨r, off, none⟩))
  | agg {cs : List AV} {xs : List Value} (h : VRs w G cs xs) (ho : cs.all AV.one = true) : VR w G (.agg cs) (.agg ⟨xs⟩)
  | tup {cs : List AV} {xs : List Value} (h : VRs w G cs xs) : VR w G (.tup cs) (.tuple ⟨xs⟩)
  | fn (f : Nat) {a b : List AV} {xs ys : List Value} (h : VRs w G a xs) (h' : VRs w G b ys) : VR w G (.fn f a b) (.func (.func f) ⟨xs⟩ ⟨ys⟩)
inductive VRs (w : World) (G : Gh) : List AV → List Value → Prop
  | nil : VRs w G [] []
  | cons {v : AV} {x : Value} {vs : List AV} {xs : List Value} (h : VR w G v x) (t : VRs w G vs xs) : VRs w G (v :: vs) (x :: xs)
end

/-- What was readable reads as before, and the blocks of the evaluation's own lie where they lay. -/
structure Ext (w : World) (G : Gh) (w' : World) (G' : Gh) : Prop where
  cell : ∀ k o x, w.cell? ⟨k, o, none⟩ = some x → G.I k o → w'.cell? ⟨k, o, none⟩ = some x ∧ G'.I k o
  loc : ∀ (b r : Nat), G.loc b = some r → G'.loc b = some r

theorem Ext.refl (w : World) (G : Gh) : Ext w G w G := ⟨fun _ _ _ h i => ⟨h, i⟩, fun _ _ h => h⟩
theorem Ext.trans {w w' w'' : World} {G G' G'' : Gh} (h : Ext w G w' G') (h' : Ext w' G' w'' G'') : Ext w G w'' G'' :=
  ⟨fun k o x a i => let ⟨a', i'⟩ := h.cell k o x a i; h'.cell k o x a' i', fun b r a => h'.loc b r (h.loc b r a)⟩

theorem Reads.ext {w w' : World} {G G' : Gh} (e : ∀ k o x, w.cell? ⟨k, o, none⟩ = some x → G.I k o → w'.cell? ⟨k, o, none⟩ = some x ∧ G'.I k o) {k o : Nat} {xs : List Value} (h : Reads w G k o xs) : Reads w' G' k o xs :=
  fun j x hx => let ⟨a, i⟩ := h j x hx; e _ _ _ a i

mutual
theorem VC.ext {w w' : World} {G G' : Gh} (e : ∀ k o x, w.cell? ⟨k, o, none⟩ = some x → G.I k o → w'.cell? ⟨k, o, none⟩ = some x ∧ G'.I k o) : ∀ {v : AV} {x : Value}, VC w G v x → VC w' G' v x
  | _, _, .bool b => .bool b
  | _, _, .int k n => .int k n
  | _, _, .str s => .str s
  | _, _, .nilp => .nilp
  | _, _, .nilf => .nilf
  | _, _, .nili => .nili
  | _, _, .nils => .nils
  | _, _, .agg h ho => .agg (VCs.ext e h) ho
  | _, _, .tup h => .tup (VCs.ext e h)
  | _, _, .sl hz hc hl ho hr h hs => .sl hz hc hl ho (hr.ext e) (VCs.ext e h) hs
  | _, _, .eref ho hr h => .eref ho (hr.ext e) (VCs.ext e h)
  | _, _, .fn f h h' => .fn f (VCs.ext e h) (VCs.ext e h')
  | _, _, .iface t h => .iface t (VC.ext e h)
  | _, _, .gptr g off => .gptr g off
  | _, _, .any x => .any x
  | _, _, .hole n x => .hole n x
  | _, _, .z e k o sp => .z e k o sp
theorem VCs.ext {w w' : World} {G G' : Gh} (e : ∀ k o x, w.cell? ⟨k, o, none⟩ = some x → G.I k o → w'.cell? ⟨k, o, none⟩ = some x ∧ G'.I k o) : ∀ {v : List AV} {x : List Value}, VCs w G v x → VCs w' G' v x
  | _, _, .nil => .nil
  | _, _, .cons h t => .cons (VC.ext e h) (VCs.ext e t)
end

mutual
theorem VR.ext {w w' : World} {G G' : Gh} (e : Ext w G w' G') : ∀ {v : AV} {x : Value}, VR w G v x → VR w' G' v x
  | _, _, .c h => .c (h.ext e.cell)
  | _, _, .gsl h => .gsl (h.ext e.cell)
  | _, _, .osl hs hl hc ha => .osl hs hl hc (fun p => let ⟨r, h, h'⟩ := ha p; ⟨r, e.loc _ _ h, h'⟩)
  | _, _, .ref h => .ref (e.loc _ _ h)
  | _, _, .agg h ho => .agg (VRs.ext e h) ho
  | _, _, .tup h => .tup (VRs.ext e h)
  | _, _, .fn f h h' => .fn f (VRs.ext e h) (VRs.ext e h')
theorem VRs.ext {w w' : World} {G G' : Gh} (e : Ext w G w' G') : ∀ {v : List AV} {x : List Value}, VRs w G v x → VRs w' G' v x
  | _, _, .nil => .nil
  | _, _, .cons h t => .cons (VR.ext e h) (VRs.ext e t)
end

theorem VRs.length {w : World} {G : Gh} : ∀ {vs : List AV} {xs : List Value}, VRs w G vs xs → vs.length = xs.length
  | _, _, .nil => rfl
  | _, _, .cons _ t => by simp [t.length]
theorem VCs.length {w : World} {G : Gh} : ∀ {vs : List AV} {xs : List Value}, VCs w G vs xs → vs.length = xs.length
  | _, _, .nil => rfl
  | _, _, .cons _ t => by simp [t.length]
theorem VCs.toVRs {w : World} {G : Gh} : ∀ {vs : List AV} {xs : List Value}, VCs w G vs xs → VRs w G vs xs
  | _, _, .nil => .nil
  | _, _, .cons h t => .cons (.c h) t.toVRs
theorem VRs.get {w : World} {G : Gh} : ∀ {vs : List AV} {xs : List Value}, VRs w G vs xs → ∀ {j : Nat} {v : AV}, vs[j]? = some v → ∃ x, xs[j]? = some x ∧ VR w G v x
  | _, _, .nil, j, v, h => by simp at h
  | _, _, .cons h0 t, 0, v, h => by simp at h; subst h; exact ⟨_, by simp, h0⟩
  | _, _, .cons h0 t, j + 1, v, h => by simpa using t.get (j := j) (by simpa using h)
theorem VCs.get {w : World} {G : Gh} : ∀ {vs : List AV} {xs : List Value}, VCs w G vs xs → ∀ {j : Nat} {v : AV}, vs[j]? = some v → ∃ x, xs[j]? = some x ∧ VC w G v x
  | _, _, .nil, j, v, h => by simp at h
  | _, _, .cons h0 t, 0, v, h => by simp at h; subst h; exact ⟨_, by simp, h0⟩
  | _, _, .cons h0 t, j + 1, v, h => by simpa using t.get (j := j) (by simpa using h)
theorem VRs.of_get {w : World} {G : Gh} : ∀ {vs : List AV} {xs : List Value}, vs.length = xs.length → (∀ (j : Nat) v x, vs[j]? = some v → xs[j]? = some x → VR w G v x) → VRs w G vs xs
  | [], [], _, _ => .nil
  | v :: vs, x :: xs, hl, h => .cons (h 0 v x (by simp) (by simp)) (VRs.of_get (by simpa using hl) (fun j v x a b => h (j + 1) v x (by simpa using a) (by simpa using b)))
  | [], _ :: _, hl, _ => by simp at hl
  | _ :: _, [], hl, _ => by simp at hl
theorem VCs.of_get {w : World} {G : Gh} : ∀ {vs : List AV} {xs : List Value}, vs.length = xs.length → (∀ (j : Nat) v x, vs[j]? = some v → xs[j]? = some x → VC w G v x) → VCs w G vs xs
  | [], [], _, _ => .nil
  | v :: vs, x :: xs, hl, h => .cons (h 0 v x (by simp) (by simp)) (VCs.of_get (by simpa using hl) (fun j v x a b => h (j + 1) v x (by simpa using a) (by simpa using b)))
  | [], _ :: _, hl, _ => by simp at hl
  | _ :: _, [], hl, _ => by simp at hl
theorem VRs.append {w : World} {G : Gh} : ∀ {a : List AV} {xs : List Value} {b : List AV} {ys : List Value}, VRs w G a xs → VRs w G b ys → VRs w G (a ++ b) (xs ++ ys)
  | _, _, _, _, .nil, h => h
  | _, _, _, _, .cons h t, h' => .cons h (t.append h')
theorem VCs.append {w : World} {G : Gh} : ∀ {a : List AV} {xs : List Value} {b : List AV} {ys : List Value}, VCs w G a xs → VCs w G b ys → VCs w G (a ++ b) (xs ++ ys)
  | _, _, _, _, .nil, h => h
  | _, _, _, _, .cons h t, h' => .cons h (t.append h')
theorem VRs.take {w : World} {G : Gh} : ∀ {a : List AV} {xs : List Value}, VRs w G a xs → ∀ n, VRs w G (a.take n) (xs.take n)
  | _, _, _, 0 => by simp; exact .nil
  | _, _, .nil, _ + 1 => .nil
  | _, _, .cons h t, n + 1 => .cons h (t.take n)
theorem VRs.drop {w : World} {G : Gh} : ∀ {a : List AV} {xs : List Value}, VRs w G a xs → ∀ n, VRs w G (a.drop n) (xs.drop n)
  | _, _, h, 0 => h
  | _, _, .nil, _ + 1 => .nil
  | _, _, .cons _ t, n + 1 => t.drop n
theorem VCs.take {w : World} {G : Gh} : ∀ {a : List AV} {xs : List Value}, VCs w G a xs → ∀ n, VCs w G (a.take n) (xs.take n)
  | _, _, _, 0 => by simp; exact .nil
  | _, _, .nil, _ + 1 => .nil
  | _, _, .cons h t, n + 1 => .cons h (t.take n)
theorem VCs.drop {w : World} {G : Gh} : ∀ {a : List AV} {xs : List Value}, VCs w G a xs → ∀ n, VCs w G (a.drop n) (xs.drop n)
  | _, _, h, 0 => h
  | _, _, .nil, _ + 1 => .nil
  | _, _, .cons _ t, n + 1 => t.drop n

theorem VR.untip {w : World} {G : Gh} {v : AV} {x : Value} (h : VR w G v x) : VR w G v.untip x := by
  cases v <;> simp only [AV.untip] <;> try exact h
  cases h with
  | gsl h => exact .c h
  | c h => cases h
theorem VRs.untip {w : World} {G : Gh} : ∀ {vs : List AV} {xs : List Value}, VRs w G vs xs → VRs w G (vs.map AV.untip) xs
  | _, _, .nil => .nil
  | _, _, .cons h t => .cons h.untip t.untip

theorem one_untip (v : AV) : v.untip.one = v.one := by cases v <;> rfl
theorem all_one_untip (vs : List AV) : (vs.map AV.untip).all AV.one = vs.all AV.one := by
  induction vs with
  | nil => rfl
  | cons v vs ih => simp [one_untip, ih]
theorem untip_untip (v : AV) : v.untip.untip = v.untip := by cases v <;> rfl

/-- The spare places of a slice: block, from, to. -/
def tipOf : AV → Value → Option (Nat × Nat × Nat)
  | .gsl e _, .slice (some a) len cap => if len < cap then some (a.block, a.off + len * e, a.off + cap * e) else none
  | _, _ => none

theorem tipOf_untip (v : AV) (x : Value) : tipOf v.untip x = none := by cases v <;> rfl

/-- Those who wait: their spare places; and what the blocks that were there before are to the evaluation. -/
structure Fr where
  tips : Nat × Nat × Nat → Prop
  R : Nat → Role
  notOwn : ∀ r b, R r ≠ .own b

inductive Loc where
  | slot (i : Nat)
  | cell (b o : Nat)
  | fr (k : Nat)

/-- A block of the evaluation's own, in memory; behind it may lie places that nobody looks at. -/
structure BlkR (w : World) (G : Gh) (b : Nat) (blk : Blk) (r : Nat) (xs : List Value) : Prop where
  loc : G.loc b = some r
  row : ∃ elem sp, w.heap[r]? = some (.cells ⟨xs ++ sp⟩ elem (0, 0))
  vals : VRs w G blk.cells xs
  one : blk.cells.all AV.one = true
  esz : 0 < blk.esz ∧ (blk.ag = false → blk.esz = 1)
  role : if blk.ro then G.role r = .imm else G.role r = .own b

structure WR (F : Fr) (base : Nat) (w : World) (G : Gh) (h : Store) : Prop where
  lt : ∀ (b r : Nat), G.loc b = some r → b < h.length
  blk : ∀ (b : Nat) blk r, h[b]? = some blk → G.loc b = some r → ∃ xs, BlkR w G b blk r xs
  has : ∀ (b : Nat) blk, h[b]? = some blk → blk.esz ≠ 0 → ∃ r, G.loc b = some r
  own : ∀ (r b : Nat), G.role r = .own b → G.loc b = some r
  old : ∀ r, r < base → G.role r = F.R r
  new : ∀ r, w.heap.size ≤ r → G.role r = .imm
  low : ∀ (b r : Nat), G.loc b = some r → base ≤ r ∧ r < w.heap.size

def TipOK (base : Nat) (w : World) (G : Gh) (t : Nat × Nat × Nat) : Prop :=
  base ≤ t.1 ∧ G.role t.1 = .tip t.2.1 ∧ ∃ cs elem fz, w.heap[t.1]? = some (.cells cs elem fz) ∧ t.2.2 ≤ cs.size ∧ ∀ o : Nat, t.2.1 ≤ o → o < t.2.2 → ¬ (fz.1 ≤ o ∧ o < fz.2)

inductive TipAt (F : Fr) (w : World) (G : Gh) (tmps : Array Value) (sl : List AV) (h : Store) : Loc → Nat × Nat × Nat → Prop
  | slot {i : Nat} {v : AV} {x : Value} {t : Nat × Nat × Nat} (hv : sl[i]? = some v) (hx : tmps[i]? = some x) (ht : tipOf v x = some t) : TipAt F w G tmps sl h (.slot i) t
  | cell {b o r : Nat} {blk : Blk} {v : AV} {x : Value} {t : Nat × Nat × Nat} (hb : h[b]? = some blk) (hv : blk.cells[o]? = some v) (hr : G.loc b = some r)
      (hx : w.cell? ⟨r, o, none⟩ = some x) (ht : tipOf v x = some t) : TipAt F w G tmps sl h (.cell b o) t
  | fr {t : Nat × Nat × Nat} (ht : F.tips t) : TipAt F w G tmps sl h (.fr t.1) t

/-- The whole state. 'base': the size of memory when the outermost call began; 'F': spare places that those who wait own. -/
structure SR (Gl : Nat → Option (List AV)) (base : Nat) (F : Fr) (w : World) (G : Gh) (tmps : Array Value) (sl : List AV) (h : Store) : Prop where
  size : sl.length = tmps.size
  vals : VRs w G sl tmps.toList
  mem : WR F base w G h
  tips : ∀ l t, TipAt F w G tmps sl h l t → TipOK base w G t
  inj : ∀ l l' t t', TipAt F w G tmps sl h l t → TipAt F w G tmps sl h l' t' → t.1 = t'.1 → l = l'
  glob : ∀ g cs, Gl g = some cs → ∃ xs, Reads w G g 0 xs ∧ VCs w G cs xs ∧ cs.all AV.one = true
  room : base ≤ w.heap.size

end Go.Proofs.YteaopgkajbfkeaaGreatDoor
namespace Go.Proofs.YteaopgkajbfkeaaGreatDoor
open Go Go.RowKit

theorem VRs.set {w : World} {G : Gh} {v : AV} {x : Value} (hv : VR w G v x) : ∀ {vs : List AV} {xs : List Value}, VRs w G vs xs → ∀ d : Nat, VRs w G (vs.set d v) (xs.set d x)
  | _, _, .nil, _ => .nil
  | _, _, .cons _ t, 0 => .cons hv t
  | _, _, .cons h t, d + 1 => .cons h (t.set hv d)

variable {Gl : Nat → Option (List AV)} {base : Nat} {F : Fr} {w : World} {G : Gh} {tmps : Array Value} {sl : List AV} {h : Store}

theorem SR.of_sub (s : SR Gl base F w G tmps sl h) {tmps' : Array Value} {sl' : List AV} (hs : sl'.length = tmps'.size) (hv : VRs w G sl' tmps'.toList)
    (ht : ∀ l t, TipAt F w G tmps' sl' h l t → TipAt F w G tmps sl h l t) : SR Gl base F w G tmps' sl' h :=
  ⟨hs, hv, s.mem, fun l t a => s.tips l t (ht l t a), fun l l' t t' a a' e => s.inj l l' t t' (ht l t a) (ht l' t' a') e, s.glob, s.room⟩

theorem SR.put (s : SR Gl base F w G tmps sl h) {v : AV} {x : Value} (d : Nat) (hv : VR w G v x) (hn : tipOf v x = none) :
    SR Gl base F w G (tmps.setIfInBounds d x) (sl.set d v) h := by
  refine s.of_sub (by simp [s.size]) (by simpa using s.vals.set hv d) ?_
  intro l t a
  cases a with
  | cell hb hv hr hx ht => exact .cell hb hv hr hx ht
  | fr ht => exact .fr ht
  | @slot i v' x' t hv' hx' ht =>
    by_cases hid : d = i
    · subst hid
      have hlt : d < sl.length := by
        rcases Nat.lt_or_ge d sl.length with hlt | hge
        · exact hlt
        · rw [List.getElem?_eq_none (by simpa using hge)] at hv'; cases hv'
      have hlt' : d < tmps.size := s.size ▸ hlt
      rw [List.getElem?_set_self hlt] at hv'
      rw [Array.getElem?_setIfInBounds_self_of_lt hlt'] at hx'
      cases hv'; cases hx'
      rw [hn] at ht; cases ht
    · rw [List.getElem?_set_ne hid] at hv'
      rw [Array.getElem?_setIfInBounds_ne hid] at hx'
      exact .slot hv' hx' ht

theorem SR.get (s : SR Gl base F w G tmps sl h) (n : Nat) : VR w G (sl.getD n .any) (tmps.getD n undef) := by
  rcases Nat.lt_or_ge n sl.length with hlt | hge
  · obtain ⟨x, hx, hv⟩ := s.vals.get (j := n) (v := sl[n]) (by simp [hlt])
    have : tmps.getD n undef = x := by
      rw [Array.getElem?_toList] at hx
      simp [hx]
    rw [this]
    simpa [hlt] using hv
  · have : sl.getD n .any = .any := by simp [List.getElem?_eq_none hge]
    rw [this]
    exact .c (.any _)

/-- A slot that gives its spare places away. -/
theorem SR.untip (s : SR Gl base F w G tmps sl h) (n : Nat) : SR Gl base F w G tmps (sl.set n (sl.getD n .any).untip) h := by
  rcases Nat.lt_or_ge n sl.length with hlt | hge
  · have hn : n < tmps.size := s.size ▸ hlt
    have := s.put n (v := (sl.getD n .any).untip) (x := tmps.getD n undef) (s.get n).untip (tipOf_untip _ _)
    rwa [show tmps.setIfInBounds n (tmps.getD n undef) = tmps by
      apply Array.ext_getElem?
      intro i
      by_cases hi : n = i
      · subst hi; rw [Array.getElem?_setIfInBounds_self_of_lt hn]; simp [hn]
      · rw [Array.getElem?_setIfInBounds_ne hi]] at this
  · rw [List.set_eq_of_length_le hge]; exact s

theorem cell_push (w : World) (o : Obj) {k off : Nat} (hk : k < w.heap.size) : ({ w with heap := w.heap.push o } : World).cell? ⟨k, off, none⟩ = w.cell? ⟨k, off, none⟩ := by
  simp only [World.cell?]
  rw [Array.getElem?_push, if_neg (by omega)]

theorem cell_lt {w : World} {k o : Nat} {x : Value} (h : w.cell? ⟨k, o, none⟩ = some x) : k < w.heap.size := by
  rcases Nat.lt_or_ge k w.heap.size with hlt | hge
  · exact hlt
  · simp [World.cell?, Array.getElem?_eq_none hge] at h

theorem heap_lt {w : World} {k : Nat} {o : Obj} (h : w.heap[k]? = some o) : k < w.heap.size := by
  rcases Nat.lt_or_ge k w.heap.size with hlt | hge
  · exact hlt
  · rw [Array.getElem?_eq_none hge] at h; cases h

def Gh.newOwn (G : Gh) (n b : Nat) : Gh := ⟨fun k => if k = n then .own b else G.role k, fun b' => if b' = b then some n else G.loc b'⟩
def Gh.newTip (G : Gh) (n hw : Nat) : Gh := ⟨fun k => if k = n then .tip hw else G.role k, G.loc⟩

theorem Gh.I_of_role {G G' : Gh} {k o : Nat} (h : G'.role k = G.role k) : G'.I k o = G.I k o := by simp only [Gh.I, h]

theorem ext_newOwn (w : World) (G : Gh) (o : Obj) (b : Nat) (hf : G.loc b = none) : Ext w G { w with heap := w.heap.push o } (G.newOwn w.heap.size b) := by
  refine ⟨fun k off x hx hi => ?_, fun b' r hb => ?_⟩
  · have hk := cell_lt hx
    refine ⟨by rw [cell_push _ _ hk]; exact hx, ?_⟩
    rw [Gh.I_of_role (G := G)]; exact hi
    simp only [Gh.newOwn]; rw [if_neg (by omega)]
  · simp only [Gh.newOwn]
    rw [if_neg (fun e => by rw [e, hf] at hb; cases hb)]; exact hb

theorem ext_newTip (w : World) (G : Gh) (o : Obj) (hw : Nat) : Ext w G { w with heap := w.heap.push o } (G.newTip w.heap.size hw) := by
  refine ⟨fun k off x hx hi => ?_, fun b r hb => hb⟩
  have hk := cell_lt hx
  refine ⟨by rw [cell_push _ _ hk]; exact hx, ?_⟩
  rw [Gh.I_of_role (G := G)]; exact hi
  simp only [Gh.newTip]; rw [if_neg (by omega)]

theorem below_push (w : World) (o : Obj) {base : Nat} (hb : base ≤ w.heap.size) : Below base w { w with heap := w.heap.push o } :=
  (Below.refl base w).alloc hb o

/-- A new block of the evaluation's own, at a number that is free. -/
theorem SR.newOwnAt (s : SR Gl base F w G tmps sl h) {cs : List AV} {xs : List Value} {esz : Nat} (ag : Bool) (elem : TypeId) (sp : List Value) (hv : VRs w G cs xs) (ho : cs.all AV.one = true) (he : 0 < esz ∧ (ag = false → esz = 1))
    (hu : ∀ v ∈ cs, v.untip = v) {h' : Store} {n : Nat} (hf : G.loc n = none) (hn : h'[n]? = some ⟨cs, esz, ag, false⟩) (hne : ∀ b, b ≠ n → ∀ blk, h'[b]? = some blk → h[b]? = some blk) (hl : h.length ≤ h'.length) :
    SR Gl base F { w with heap := w.heap.push (.cells ⟨xs ++ sp⟩ elem) } (G.newOwn w.heap.size n) tmps sl h' := by
  have E := ext_newOwn w G (.cells ⟨xs ++ sp⟩ elem) n hf
  have sub : ∀ l t, TipAt F { w with heap := w.heap.push (.cells ⟨xs ++ sp⟩ elem) } (G.newOwn w.heap.size n) tmps sl h' l t → TipAt F w G tmps sl h l t := by
    intro l t a
    cases a with
    | slot hv' hx' ht => exact .slot hv' hx' ht
    | fr ht => exact .fr ht
    | @cell b o r blk v x t hb hv' hr hx ht =>
      by_cases hbn : b = n
      · subst hbn
        rw [hn] at hb
        cases hb
        have := hu v (List.mem_of_getElem? hv')
        rw [← this, tipOf_untip] at ht
        cases ht
      · have hr' : G.loc b = some r := by
          simp only [Gh.newOwn] at hr
          rwa [if_neg hbn] at hr
        rw [cell_push _ _ (s.mem.low _ _ hr').2] at hx
        exact .cell (hne b hbn _ hb) hv' hr' hx ht
  refine ⟨s.size, s.vals.ext E, ?_, ?_, ?_, ?_, ?_⟩
  · refine ⟨?_, ?_, ?_, ?_, ?_, ?_, ?_⟩
    · intro b r hb
      simp only [Gh.newOwn] at hb
      split at hb
      · rename_i e; subst e
        exact (List.getElem?_eq_some_iff.1 hn).1
      · have := s.mem.lt b r hb; omega
    · intro b blk r hb hr
      by_cases hbn : b = n
      · subst hbn
        rw [hn] at hb
        cases hb
        simp only [Gh.newOwn, if_pos, Option.some.injEq] at hr
        subst hr
        exact ⟨xs, ⟨by simp [Gh.newOwn], ⟨elem, sp, by simp⟩, hv.ext E, ho, he, by simp [Gh.newOwn]⟩⟩
      · have hr' : G.loc b = some r := by
          simp only [Gh.newOwn] at hr
          rwa [if_neg hbn] at hr
        obtain ⟨ys, B⟩ := s.mem.blk b blk r (hne b hbn _ hb) hr'
        have hr2 := (s.mem.low _ _ hr').2
        refine ⟨ys, E.loc _ _ B.loc, ?_, B.vals.ext E, B.one, B.esz, ?_⟩
        · obtain ⟨el, sp', hrow⟩ := B.row
          exact ⟨el, sp', by simp only; rw [Array.getElem?_push, if_neg (by omega)]; exact hrow⟩
        · have := B.role
          simp only [Gh.newOwn]
          rw [if_neg (show ¬ r = w.heap.size by omega)]
          exact this
    · intro b blk hb hz
      by_cases hbn : b = n
      · subst hbn; exact ⟨w.heap.size, by simp only [Gh.newOwn, if_pos]⟩
      · obtain ⟨r, hr⟩ := s.mem.has b blk (hne b hbn _ hb) hz
        exact ⟨r, by simp only [Gh.newOwn]; rw [if_neg hbn]; exact hr⟩
    · intro r b hr
      simp only [Gh.newOwn] at hr ⊢
      split at hr
      · rename_i hrn; subst hrn; cases hr; simp
      · have := s.mem.own r b hr
        rw [if_neg (fun e => by rw [e, hf] at this; cases this)]; exact this
    · intro r hr
      simp only [Gh.newOwn]
      rw [if_neg (by have := s.room; omega)]
      exact s.mem.old r hr
    · intro r hr
      simp only [Array.size_push] at hr
      simp only [Gh.newOwn]
      rw [if_neg (by omega)]
      exact s.mem.new r (by omega)
    · intro b r hb
      simp only [Gh.newOwn] at hb
      simp only [Array.size_push]
      split at hb
      · cases hb
        exact ⟨s.room, by omega⟩
      · have := s.mem.low b r hb
        exact ⟨this.1, by omega⟩
  · intro l t a
    obtain ⟨h1, h2, cs', el, fz, h3, h4, h5⟩ := s.tips l t (sub l t a)
    have := heap_lt h3
    refine ⟨h1, ?_, cs', el, fz, ?_, h4, h5⟩
    · simp only [Gh.newOwn]; rw [if_neg (by omega)]; exact h2
    · simp only; rw [Array.getElem?_push, if_neg (by omega)]; exact h3
  · exact fun l l' t t' a a' e => s.inj l l' t t' (sub l t a) (sub l' t' a') e
  · intro g cs' hg
    obtain ⟨ys, h1, h2, h3⟩ := s.glob g cs' hg
    exact ⟨ys, h1.ext E.cell, h2.ext E.cell, h3⟩
  · simp only [Array.size_push]; have := s.room; omega

theorem WR.free {base : Nat} {F : Fr} {w : World} {G : Gh} {h : Store} (m : WR F base w G h) {n : Nat} (hn : h.length ≤ n) : G.loc n = none := by
  cases hl : G.loc n with
  | none => rfl
  | some r => have := m.lt n r hl; omega

/-- A new block of the evaluation's own. -/
theorem SR.newOwn (s : SR Gl base F w G tmps sl h) {cs : List AV} {xs : List Value} {esz : Nat} (ag : Bool) (elem : TypeId) (hv : VRs w G cs xs) (ho : cs.all AV.one = true) (he : 0 < esz ∧ (ag = false → esz = 1))
    (hu : ∀ v ∈ cs, v.untip = v) :
    SR Gl base F { w with heap := w.heap.push (.cells ⟨xs⟩ elem) } (G.newOwn w.heap.size h.length) tmps sl (h ++ [⟨cs, esz, ag, false⟩]) := by
  have := s.newOwnAt ag elem [] hv ho he hu (h' := h ++ [⟨cs, esz, ag, false⟩]) (s.mem.free (Nat.le_refl _)) (by simp) ?_ (by simp)
  · simpa using this
  intro b hb blk hbk
  rcases Nat.lt_or_ge b h.length with h1 | h1
  · rwa [List.getElem?_append_left h1] at hbk
  · rw [List.getElem?_eq_none (by simp; omega)] at hbk; cases hbk

/-- A new block, with places behind it that nobody looks at. -/
theorem SR.newOwnSp (s : SR Gl base F w G tmps sl h) {cs : List AV} {xs : List Value} {esz : Nat} (ag : Bool) (elem : TypeId) (sp : List Value) (hv : VRs w G cs xs) (ho : cs.all AV.one = true) (he : 0 < esz ∧ (ag = false → esz = 1))
    (hu : ∀ v ∈ cs, v.untip = v) :
    SR Gl base F { w with heap := w.heap.push (.cells ⟨xs ++ sp⟩ elem) } (G.newOwn w.heap.size h.length) tmps sl (h ++ [⟨cs, esz, ag, false⟩]) := by
  refine s.newOwnAt ag elem sp hv ho he hu (s.mem.free (Nat.le_refl _)) (by simp) ?_ (by simp)
  intro b hb blk hbk
  rcases Nat.lt_or_ge b h.length with h1 | h1
  · rwa [List.getElem?_append_left h1] at hbk
  · rw [List.getElem?_eq_none (by simp; omega)] at hbk; cases hbk

/-- A block that was announced comes to be. -/
theorem SR.fillOwn (s : SR Gl base F w G tmps sl h) {cs : List AV} {xs : List Value} {esz : Nat} (ag : Bool) (elem : TypeId) (hv : VRs w G cs xs) (ho : cs.all AV.one = true) (he : 0 < esz ∧ (ag = false → esz = 1))
    (hu : ∀ v ∈ cs, v.untip = v) {n : Nat} {blk : Blk} (hn : h[n]? = some blk) (hz : blk.esz = 0) :
    SR Gl base F { w with heap := w.heap.push (.cells ⟨xs⟩ elem) } (G.newOwn w.heap.size n) tmps sl (h.set n ⟨cs, esz, ag, false⟩) := by
  have hlt := (List.getElem?_eq_some_iff.1 hn).1
  have hf : G.loc n = none := by
    cases hl : G.loc n with
    | none => rfl
    | some r => obtain ⟨ys, B⟩ := s.mem.blk n blk r hn hl; have := B.esz.1; omega
  have := s.newOwnAt ag elem [] hv ho he hu (h' := h.set n ⟨cs, esz, ag, false⟩) hf (by rw [List.getElem?_set_self hlt]) ?_ (by simp)
  · simpa using this
  intro b hb blk' hbk
  rwa [List.getElem?_set_ne (fun e => hb e.symm)] at hbk

/-- Numbers for blocks to come. -/
theorem SR.hole (s : SR Gl base F w G tmps sl h) {b : Blk} (hz : b.esz = 0) : SR Gl base F w G tmps sl (h ++ [b]) := by
  have get : ∀ (n r : Nat) blk, G.loc n = some r → (h ++ [b])[n]? = some blk → h[n]? = some blk := by
    intro n r blk hr hbk
    have := s.mem.lt n r hr
    rwa [List.getElem?_append_left this] at hbk
  have sub : ∀ l t, TipAt F w G tmps sl (h ++ [b]) l t → TipAt F w G tmps sl h l t := by
    intro l t a
    cases a with
    | slot hv' hx' ht => exact .slot hv' hx' ht
    | fr ht => exact .fr ht
    | @cell b o r blk v x t hb hv' hr hx ht => exact .cell (get _ _ _ hr hb) hv' hr hx ht
  refine ⟨s.size, s.vals, ⟨fun n r hr => ?_, fun n blk r hb hr => s.mem.blk n blk r (get _ _ _ hr hb) hr, fun n blk hb hz' => ?_, s.mem.own, s.mem.old, s.mem.new, s.mem.low⟩, fun l t a => s.tips l t (sub l t a), fun l l' t t' a a' e => s.inj l l' t t' (sub l t a) (sub l' t' a') e, s.glob, s.room⟩
  · have := s.mem.lt n r hr
    simp; omega
  · rcases Nat.lt_or_ge n h.length with h1 | h1
    · rw [List.getElem?_append_left h1] at hb; exact s.mem.has n blk hb hz'
    · rw [List.getElem?_append_right h1] at hb
      have := List.mem_of_getElem? hb
      simp at this
      subst this
      exact absurd hz hz'

/-- A slot is written with a value that may own spare places. -/
theorem SR.putTip (s : SR Gl base F w G tmps sl h) {v : AV} {x : Value} (d : Nat) (hv : VR w G v x)
    (hn : ∀ t, tipOf v x = some t → TipOK base w G t ∧ ∀ l t', TipAt F w G tmps sl h l t' → t'.1 = t.1 → l = .slot d) :
    SR Gl base F w G (tmps.setIfInBounds d x) (sl.set d v) h := by
  have sub : ∀ l t, TipAt F w G (tmps.setIfInBounds d x) (sl.set d v) h l t → (TipAt F w G tmps sl h l t ∧ l ≠ .slot d) ∨ (l = .slot d ∧ tipOf v x = some t) := by
    intro l t a
    cases a with
    | cell hb hv hr hx ht => exact .inl ⟨.cell hb hv hr hx ht, by simp⟩
    | fr ht => exact .inl ⟨.fr ht, by simp⟩
    | @slot i v' x' t hv' hx' ht =>
      by_cases hid : d = i
      · subst hid
        have hlt : d < sl.length := by
          rcases Nat.lt_or_ge d sl.length with hlt | hge
          · exact hlt
          · rw [List.getElem?_eq_none (by simpa using hge)] at hv'; cases hv'
        have hlt' : d < tmps.size := s.size ▸ hlt
        rw [List.getElem?_set_self hlt] at hv'
        rw [Array.getElem?_setIfInBounds_self_of_lt hlt'] at hx'
        cases hv'; cases hx'
        exact .inr ⟨rfl, ht⟩
      · rw [List.getElem?_set_ne hid] at hv'
        rw [Array.getElem?_setIfInBounds_ne hid] at hx'
        exact .inl ⟨.slot hv' hx' ht, by simp; omega⟩
  refine ⟨by simp [s.size], by simpa using s.vals.set hv d, s.mem, ?_, ?_, s.glob, s.room⟩
  · intro l t a
    rcases sub l t a with ⟨a, _⟩ | ⟨_, ht⟩
    · exact s.tips l t a
    · exact (hn t ht).1
  · intro l l' t t' a a' e
    rcases sub l t a with ⟨a, hl⟩ | ⟨hl, ht⟩ <;> rcases sub l' t' a' with ⟨a', hl'⟩ | ⟨hl', ht'⟩
    · exact s.inj l l' t t' a a' e
    · exact absurd ((hn t' ht').2 l t a e) hl
    · exact absurd ((hn t ht).2 l' t' a' e.symm) hl'
    · rw [hl, hl']

/-- A slot gives its value to another, with the spare places. -/
theorem SR.take (s : SR Gl base F w G tmps sl h) (n d : Nat) :
    SR Gl base F w G (tmps.setIfInBounds d (tmps.getD n undef)) ((sl.set n (sl.getD n .any).untip).set d (sl.getD n .any)) h := by
  refine (s.untip n).putTip d (s.get n) ?_
  intro t ht
  have hlt : n < sl.length := by
    rcases Nat.lt_or_ge n sl.length with hlt | hge
    · exact hlt
    · rw [show sl.getD n .any = .any by simp [List.getElem?_eq_none hge]] at ht; cases ht
  have hlt' : n < tmps.size := s.size ▸ hlt
  have a : TipAt F w G tmps sl h (.slot n) t := .slot (v := sl.getD n .any) (x := tmps.getD n undef) (by simp [hlt]) (by simp [hlt']) ht
  refine ⟨s.tips _ _ a, fun l t' a' e => ?_⟩
  exfalso
  have old : TipAt F w G tmps sl h l t' ∧ l ≠ .slot n := by
    cases a' with
    | cell hb hv hr hx ht => exact ⟨.cell hb hv hr hx ht, by simp⟩
    | fr ht => exact ⟨.fr ht, by simp⟩
    | @slot i v' x' t hv' hx' ht =>
      by_cases hid : n = i
      · subst hid
        rw [List.getElem?_set_self hlt] at hv'
        cases hv'
        rw [tipOf_untip] at ht; cases ht
      · rw [List.getElem?_set_ne hid] at hv'
        exact ⟨.slot hv' hx' ht, by simp; omega⟩
  exact old.2 (s.inj _ _ _ _ old.1 a e)

/-- The state behind a change of memory and of the blocks' parts that leaves the slots alone. -/
theorem SR.move (s : SR Gl base F w G tmps sl h) {w' : World} {G' : Gh} {h' : Store} (E : Ext w G w' G') (hm : WR F base w' G' h')
    (ht : ∀ l t, TipAt F w' G' tmps sl h' l t → TipAt F w G tmps sl h l t) (hk : ∀ l t, TipAt F w G tmps sl h l t → TipOK base w G t → TipOK base w' G' t) (hr : base ≤ w'.heap.size) :
    SR Gl base F w' G' tmps sl h' :=
  ⟨s.size, s.vals.ext E, hm, fun l t a => hk l t (ht l t a) (s.tips l t (ht l t a)), fun l l' t t' a a' e => s.inj l l' t t' (ht l t a) (ht l' t' a') e,
   fun g cs hg => let ⟨ys, h1, h2, h3⟩ := s.glob g cs hg; ⟨ys, h1.ext E.cell, h2.ext E.cell, h3⟩, hr⟩

/-- A new block with spare places, which nobody has yet. -/
theorem SR.pushTip (s : SR Gl base F w G tmps sl h) (c : Array Value) (elem : TypeId) (fz : Nat × Nat) (hw : Nat) :
    SR Gl base F { w with heap := w.heap.push (.cells c elem fz) } (G.newTip w.heap.size hw) tmps sl h := by
  have E := ext_newTip w G (.cells c elem fz) hw
  refine s.move E ?_ ?_ ?_ (by simp only [Array.size_push]; have := s.room; omega)
  · refine ⟨s.mem.lt, ?_, s.mem.has, ?_, ?_, ?_, ?_⟩
    · intro b blk r hb hloc
      obtain ⟨ys, B⟩ := s.mem.blk b blk r hb hloc
      have hr := (s.mem.low _ _ B.loc).2
      refine ⟨ys, B.loc, ?_, B.vals.ext E, B.one, B.esz, ?_⟩
      · obtain ⟨el, sp', hrow⟩ := B.row
        exact ⟨el, sp', by simp only; rw [Array.getElem?_push, if_neg (by omega)]; exact hrow⟩
      · have := B.role
        simp only [Gh.newTip]
        rw [if_neg (show ¬ r = w.heap.size by omega)]
        exact this
    · intro r b hr
      simp only [Gh.newTip] at hr ⊢
      split at hr
      · cases hr
      · exact s.mem.own r b hr
    · intro r hr
      simp only [Gh.newTip]
      rw [if_neg (by have := s.room; omega)]
      exact s.mem.old r hr
    · intro r hr
      simp only [Array.size_push] at hr
      simp only [Gh.newTip]
      rw [if_neg (by omega)]
      exact s.mem.new r (by omega)
    · intro b r hb
      simp only [Array.size_push]
      have := s.mem.low b r hb
      exact ⟨this.1, by omega⟩
  · intro l t a
    cases a with
    | slot hv' hx' ht => exact .slot hv' hx' ht
    | fr ht => exact .fr ht
    | @cell b o r blk v x t hb hv' hr hx ht =>
      rw [cell_push _ _ (s.mem.low _ _ hr).2] at hx
      exact .cell hb hv' hr hx ht
  · rintro l t - ⟨h1, h2, cs', el, fz, h3, h4, h5⟩
    have := heap_lt h3
    refine ⟨h1, ?_, cs', el, fz, ?_, h4, h5⟩
    · simp only [Gh.newTip]; rw [if_neg (by omega)]; exact h2
    · simp only; rw [Array.getElem?_push, if_neg (by omega)]; exact h3

/-- A new slice with spare places, put into a slot. -/
theorem SR.newTip (s : SR Gl base F w G tmps sl h) {vs : List AV} {esz : Nat} {xs sp : List Value} (elem : TypeId) (fz : Nat × Nat) (cap d : Nat) (hz : 0 < esz) (hl : ∀ v ∈ vs, v.cells.length = esz)
    (ho : (vs.flatMap AV.cells).all AV.one = true) (hv : VCs w G (vs.flatMap AV.cells) xs) (hc : vs.length ≤ cap) (hs : cap * esz ≤ (xs ++ sp).length)
    (hf : ∀ o : Nat, vs.length * esz ≤ o → o < cap * esz → ¬ (fz.1 ≤ o ∧ o < fz.2)) :
    SR Gl base F { w with heap := w.heap.push (.cells ⟨xs ++ sp⟩ elem fz) } (G.newTip w.heap.size (vs.length * esz))
      (tmps.setIfInBounds d (.slice (some ⟨w.heap.size, 0, none⟩) vs.length cap)) (sl.set d (.gsl esz vs)) h := by
  have E := ext_newTip w G (.cells ⟨xs ++ sp⟩ elem fz) (vs.length * esz)
  have s' := s.pushTip ⟨xs ++ sp⟩ elem fz (vs.length * esz)
  have hlen : xs.length = vs.length * esz := by
    rw [← hv.length, List.length_flatMap]
    clear hv ho s' E hs hc hf
    induction vs with
    | nil => simp
    | cons v vs ih =>
      simp only [List.map_cons, List.sum_cons, List.length_cons]
      rw [ih (fun u hu => hl u (by simp [hu])), hl v (by simp), Nat.succ_mul, Nat.add_comm]
  refine s'.putTip d (.gsl (.sl hz hc hl ho ?_ (hv.ext E.cell) (.inl rfl))) ?_
  · intro j x hx
    have hj : j < xs.length := by
      rcases Nat.lt_or_ge j xs.length with hlt | hge
      · exact hlt
      · rw [List.getElem?_eq_none hge] at hx; cases hx
    refine ⟨?_, ?_⟩
    · simp [World.cell?, hx, List.getElem?_append_left hj]
    · simp only [Gh.I, Gh.newTip, if_pos]; omega
  · intro t ht
    simp only [tipOf] at ht
    split at ht
    · rename_i hlt
      cases ht
      refine ⟨⟨s.room, by simp [Gh.newTip], ⟨xs ++ sp⟩, elem, fz, by simp, by simpa using hs, fun o h1 h2 => hf o (by simpa using h1) (by simpa using h2)⟩, ?_⟩
      intro l t' a e
      exfalso
      obtain ⟨_, h2, _⟩ := s'.tips l t' a
      have h2' := s.tips l t' (by
        cases a with
        | slot hv' hx' ht => exact .slot hv' hx' ht
        | fr ht => exact .fr ht
        | @cell b o r blk v x t hb hv' hr hx ht =>
          rw [cell_push _ _ (s.mem.low _ _ hr).2] at hx
          exact .cell hb hv' hr hx ht)
      obtain ⟨_, _, _, _, _, h3, _⟩ := h2'
      have := heap_lt h3
      simp only at e
      omega
    · cases ht

end Go.Proofs.YteaopgkajbfkeaaGreatDoor
namespace Go.Proofs.YteaopgkajbfkeaaGreatDoor
open Go Go.RowKit

theorem add_none (r o i : Nat) : (⟨r, o, none⟩ : Addr).add i = ⟨r, o + i, none⟩ := by
  unfold Addr.add; split <;> simp_all

def rowPut (w : World) (r : Nat) (xs : List Value) (elem : TypeId) (fz : Nat × Nat) : World := { w with heap := w.heap.setIfInBounds r (.cells ⟨xs⟩ elem fz) }

def spliceV (ys : List Value) (o : Nat) (xs : List Value) : List Value := ys.take o ++ xs ++ ys.drop (o + xs.length)

theorem rowPut_get {w : World} {r : Nat} {xs : List Value} {elem : TypeId} {fz : Nat × Nat} (hr : r < w.heap.size) : (rowPut w r xs elem fz).heap[r]? = some (.cells ⟨xs⟩ elem fz) := by
  simp [rowPut, hr]
theorem rowPut_ne {w : World} {r k : Nat} {xs : List Value} {elem : TypeId} {fz : Nat × Nat} (hk : k ≠ r) : (rowPut w r xs elem fz).heap[k]? = w.heap[k]? := by
  simp only [rowPut]; rw [Array.getElem?_setIfInBounds_ne (Ne.symm hk)]
theorem rowPut_size (w : World) (r : Nat) (xs : List Value) (elem : TypeId) (fz : Nat × Nat) : (rowPut w r xs elem fz).heap.size = w.heap.size := by simp [rowPut]
theorem rowPut_rowPut (w : World) (r : Nat) (xs ys : List Value) (elem : TypeId) (fz : Nat × Nat) : rowPut (rowPut w r xs elem fz) r ys elem fz = rowPut w r ys elem fz := by
  simp only [rowPut]
  congr 1
  apply Array.ext_getElem?
  intro k
  by_cases hk : r = k
  · subst hk
    rcases Nat.lt_or_ge r w.heap.size with hlt | hge
    · simp [hlt]
    · simp [Nat.not_lt.2 hge]
  · simp [Array.getElem?_setIfInBounds_ne hk]
theorem rowPut_self {w : World} {r : Nat} {xs : List Value} {elem : TypeId} {fz : Nat × Nat} (h : w.heap[r]? = some (.cells ⟨xs⟩ elem fz)) : rowPut w r xs elem fz = w := by
  have : w.heap.setIfInBounds r (.cells ⟨xs⟩ elem fz) = w.heap := by
    apply Array.ext_getElem?
    intro k
    by_cases hk : r = k
    · subst hk
      rw [Array.getElem?_setIfInBounds_self_of_lt (heap_lt h), h]
    · rw [Array.getElem?_setIfInBounds_ne hk]
  simp only [rowPut, this]

theorem setCell_row {w : World} {r k : Nat} {ys : List Value} {elem : TypeId} {fz : Nat × Nat} (h : w.heap[r]? = some (.cells ⟨ys⟩ elem fz)) (x : Value) :
    w.setCell ⟨r, k, none⟩ x = rowPut w r (ys.set k x) elem fz := by
  have hr := heap_lt h
  simp only [World.setCell, rowPut]
  congr 1
  apply Array.ext_getElem?
  intro j
  by_cases hj : r = j
  · subst hj
    rw [Array.getElem?_modify, if_pos rfl, h, Array.getElem?_setIfInBounds_self_of_lt hr]
    simp [Array.setIfInBounds]
    intro hk
    rw [List.set_eq_of_length_le hk]
  · rw [Array.getElem?_modify, if_neg hj, Array.getElem?_setIfInBounds_ne hj]

theorem run_storeRow (P : Program) (r o : Nat) (elem : TypeId) (fz : Nat × Nat) : ∀ (xs : List Value) (i : Nat) (ys : List Value) (w : World), w.heap[r]? = some (.cells ⟨ys⟩ elem fz) → o + i + xs.length ≤ ys.length →
    (∀ x ∈ xs, x.oneCell' = true) → (∀ j, o + i ≤ j → j < o + i + xs.length → ¬ (fz.1 ≤ j ∧ j < fz.2)) →
    (storeCells ⟨r, o, none⟩ xs i).run P w = .ok () (rowPut w r (spliceV ys (o + i) xs) elem fz)
  | [], i, ys, w, h, _, _, _ => by
    simp only [storeCells, Sem.run_pure, spliceV, List.append_nil, List.length_nil, Nat.add_zero, List.take_append_drop]
    rw [rowPut_self h]
  | x :: xs, i, ys, w, h, hl, h1, hf => by
    simp only [List.length_cons] at hl hf
    simp only [storeCells, Sem.run_bind, add_none]
    rw [run_store P w _ x .plain (h1 x (by simp))]
    have hc : w.cell? ⟨r, o + i, none⟩ = some (ys[o + i]'(by omega)) := by
      simp [World.cell?, h, show o + i < ys.length by omega]
    have hz : w.frozen? ⟨r, o + i, none⟩ = false := by
      have := hf (o + i) (by omega) (by omega)
      simp only [World.frozen?, h]
      simpa using this
    rw [hc]
    simp only [hz, Bool.false_eq_true, if_false, Result.andThen_ok]
    rw [setCell_row h]
    have hr := heap_lt h
    have := run_storeRow P r o elem fz xs (i + 1) (ys.set (o + i) x) (rowPut w r (ys.set (o + i) x) elem fz) (rowPut_get hr) (by simp; omega) (fun u hu => h1 u (by simp [hu]))
      (fun j a b => hf j (by omega) (by omega))
    rw [this, rowPut_rowPut]
    congr 2
    simp only [spliceV, List.length_cons, ← Nat.add_assoc]
    rw [List.drop_set_of_lt (by omega), List.take_set]
    have hk : (ys.take (o + i + 1)).set (o + i) x = ys.take (o + i) ++ [x] := by
      rw [List.take_succ_eq_append_getElem (by omega), List.set_append_right _ _ (by simp; omega)]
      simp [show min (o + i) ys.length = o + i by omega]
    rw [hk, List.append_assoc, List.append_assoc, List.append_assoc, show o + i + 1 + xs.length = o + i + (xs.length + 1) by omega]
    rfl

variable {Gl : Nat → Option (List AV)} {base : Nat} {F : Fr} {w : World} {G : Gh} {tmps : Array Value} {sl : List AV} {h : Store}

theorem cell_rowPut_ne {w : World} {r k o : Nat} {xs : List Value} {elem : TypeId} {fz : Nat × Nat} (hk : k ≠ r) : (rowPut w r xs elem fz).cell? ⟨k, o, none⟩ = w.cell? ⟨k, o, none⟩ := by
  simp only [World.cell?]; rw [rowPut_ne hk]
theorem cell_rowPut {w : World} {r o : Nat} {xs : List Value} {elem : TypeId} {fz : Nat × Nat} (hr : r < w.heap.size) : (rowPut w r xs elem fz).cell? ⟨r, o, none⟩ = xs[o]? := by
  simp [World.cell?, rowPut_get hr]
theorem cell_row {w : World} {r o : Nat} {xs : List Value} {elem : TypeId} {fz : Nat × Nat} (hr : w.heap[r]? = some (.cells ⟨xs⟩ elem fz)) : w.cell? ⟨r, o, none⟩ = xs[o]? := by
  simp [World.cell?, hr]

theorem below_rowPut {base r : Nat} (w : World) (xs : List Value) (elem : TypeId) (fz : Nat × Nat) (hb : base ≤ r) : Below base w (rowPut w r xs elem fz) :=
  ⟨rfl, rfl, rfl, by rw [rowPut_size]; exact Nat.le_refl _, fun k hk => rowPut_ne (by omega)⟩

theorem VRs.spliced {w : World} {G : Gh} {vs cs : List AV} {xs ys : List Value} (h : VRs w G vs xs) (h' : VRs w G cs ys) (o : Nat) : VRs w G (splice vs o cs) (spliceV xs o ys) := by
  unfold splice spliceV
  rw [h'.length]
  exact ((h.take o).append h').append (h.drop _)

theorem all_splice {p : AV → Bool} {vs cs : List AV} (h : vs.all p = true) (h' : cs.all p = true) (o : Nat) : (splice vs o cs).all p = true := by
  unfold splice
  simp only [List.all_append, Bool.and_eq_true]
  simp only [List.all_eq_true] at *
  exact ⟨⟨fun x hx => h x (List.mem_of_mem_take hx), h'⟩, fun x hx => h x (List.mem_of_mem_drop hx)⟩

theorem splice_get {vs cs : List AV} {o j : Nat} {v : AV} (hl : o + cs.length ≤ vs.length) (hv : (splice vs o cs)[j]? = some v) : (vs[j]? = some v ∧ (j < o ∨ o + cs.length ≤ j)) ∨ v ∈ cs := by
  unfold splice at hv
  rw [List.append_assoc] at hv
  rcases Nat.lt_or_ge j o with h1 | h1
  · rw [List.getElem?_append_left (by simp; omega)] at hv
    rw [List.getElem?_take_of_lt h1] at hv
    exact .inl ⟨hv, .inl h1⟩
  · rw [List.getElem?_append_right (by simp; omega)] at hv
    simp only [List.length_take, show min o vs.length = o by omega] at hv
    rcases Nat.lt_or_ge (j - o) cs.length with h2 | h2
    · rw [List.getElem?_append_left h2] at hv
      exact .inr (List.mem_of_getElem? hv)
    · rw [List.getElem?_append_right h2, List.getElem?_drop] at hv
      rw [show o + cs.length + (j - o - cs.length) = j by omega] at hv
      exact .inl ⟨hv, .inr (by omega)⟩

theorem spliceV_get {xs ys : List Value} {o j : Nat} (hl : o + ys.length ≤ xs.length) (hj : j < o ∨ o + ys.length ≤ j) : (spliceV xs o ys)[j]? = xs[j]? := by
  unfold spliceV
  rw [List.append_assoc]
  rcases hj with h1 | h1
  · rw [List.getElem?_append_left (by simp; omega), List.getElem?_take_of_lt h1]
  · rw [List.getElem?_append_right (by simp; omega)]
    simp only [List.length_take, show min o xs.length = o by omega]
    rw [List.getElem?_append_right (by omega), List.getElem?_drop]
    congr 1; omega

theorem spliceV_length {xs ys : List Value} {o : Nat} (hl : o + ys.length ≤ xs.length) : (spliceV xs o ys).length = xs.length := by
  unfold spliceV; simp; omega

theorem spliceV_app {ys rest xs : List Value} {o : Nat} (hl : o + xs.length ≤ ys.length) : spliceV (ys ++ rest) o xs = spliceV ys o xs ++ rest := by
  unfold spliceV
  rw [List.take_append_of_le_length (by omega), List.drop_append_of_le_length (by omega)]
  simp only [List.append_assoc]

theorem get_left {ys rest : List Value} {j : Nat} {x : Value} (hx : ys[j]? = some x) : (ys ++ rest)[j]? = some x := by
  rw [List.getElem?_append_left (List.getElem?_eq_some_iff.1 hx).1]; exact hx

/-- A store into a block of the evaluation's own. -/
theorem SR.store (s : SR Gl base F w G tmps sl h) {b r o : Nat} {blk : Blk} {ys sp xs : List Value} {cs : List AV} {elem : TypeId} (hb : h[b]? = some blk) (B : BlkR w G b blk r ys) (hrow : w.heap[r]? = some (.cells ⟨ys ++ sp⟩ elem (0, 0)))
    (hro : blk.ro = false) (hc : VRs w G cs xs) (h1 : cs.all AV.one = true) (hu : ∀ v ∈ cs, v.untip = v) (hl : o + cs.length ≤ blk.cells.length) :
    Ext w G (rowPut w r (spliceV (ys ++ sp) o xs) elem (0, 0)) G ∧ SR Gl base F (rowPut w r (spliceV (ys ++ sp) o xs) elem (0, 0)) G tmps sl (h.set b { blk with cells := splice blk.cells o cs }) := by
  have hr := heap_lt hrow
  have hown : G.role r = .own b := by have := B.role; rw [hro] at this; simpa using this
  have hlx : cs.length = xs.length := hc.length
  have hly : blk.cells.length = ys.length := B.vals.length
  have hblt : b < h.length := by
    rcases Nat.lt_or_ge b h.length with hlt | hge
    · exact hlt
    · rw [List.getElem?_eq_none hge] at hb; cases hb
  have E : Ext w G (rowPut w r (spliceV (ys ++ sp) o xs) elem (0, 0)) G := by
    refine ⟨fun k off x hx hi => ⟨?_, hi⟩, fun _ _ h => h⟩
    have hk : k ≠ r := fun e => by subst e; simp [Gh.I, hown] at hi
    rw [cell_rowPut_ne hk]; exact hx
  refine ⟨E, s.move E ?_ ?_ ?_ (by rw [rowPut_size]; exact s.room)⟩
  · refine ⟨fun b r hr => by simpa using s.mem.lt b r hr, ?_, ?_, s.mem.own, s.mem.old, by rw [rowPut_size]; exact s.mem.new, by rw [rowPut_size]; exact s.mem.low⟩
    case refine_2 =>
      intro b' blk' hb' hz
      by_cases hbb : b = b'
      · subst hbb; exact ⟨_, B.loc⟩
      · rw [List.getElem?_set_ne hbb] at hb'; exact s.mem.has b' blk' hb' hz
    intro b' blk' r' hb' hloc'
    by_cases hbb : b = b'
    · subst hbb
      rw [List.getElem?_set_self hblt] at hb'
      cases hb'
      obtain rfl : r = r' := Option.some.inj (B.loc.symm.trans hloc')
      exact ⟨spliceV ys o xs, ⟨B.loc, ⟨elem, sp, by rw [← spliceV_app (by omega)]; exact rowPut_get hr⟩, ((B.vals.spliced hc o).ext E), all_splice B.one h1 o, B.esz, by have := B.role; simpa [hro] using this⟩⟩
    · rw [List.getElem?_set_ne hbb] at hb'
      obtain ⟨zs, B'⟩ := s.mem.blk b' blk' r' hb' hloc'
      have hrr : r' ≠ r := fun e => by
        subst e
        have := B'.role
        rw [hown] at this
        split at this
        · cases this
        · cases this; exact hbb rfl
      obtain ⟨el, sp', hrow'⟩ := B'.row
      exact ⟨zs, ⟨B'.loc, ⟨el, sp', by rw [rowPut_ne hrr]; exact hrow'⟩, B'.vals.ext E, B'.one, B'.esz, B'.role⟩⟩
  · intro l t a
    cases a with
    | slot hv hx ht => exact .slot hv hx ht
    | fr ht => exact .fr ht
    | @cell b' o' r' blk' v x t hb' hv hr' hx ht =>
      by_cases hbb : b = b'
      · subst hbb
        rw [List.getElem?_set_self hblt] at hb'
        cases hb'
        have : r' = r := Option.some.inj (hr'.symm.trans B.loc)
        subst this
        rcases splice_get hl hv with ⟨hv', ho'⟩ | hm
        · rw [cell_rowPut hr, spliceV_get (by simp; omega) (by omega)] at hx
          exact .cell hb hv' hr' (by rw [cell_row hrow]; exact hx) ht
        · rw [← hu v hm, tipOf_untip] at ht; cases ht
      · rw [List.getElem?_set_ne hbb] at hb'
        obtain ⟨zs, B'⟩ := s.mem.blk b' blk' r' hb' hr'
        have hrr : r' ≠ r := fun e => by
          subst e
          have := B'.role
          rw [hown] at this
          split at this
          · cases this
          · cases this; exact hbb rfl
        rw [cell_rowPut_ne hrr] at hx
        exact .cell hb' hv hr' hx ht
  · rintro l t - ⟨h1, h2, cs', el, fz, h3, h4⟩
    have hk : t.1 ≠ r := fun e => by rw [e, hown] at h2; cases h2
    exact ⟨h1, h2, cs', el, fz, by rw [rowPut_ne hk]; exact h3, h4⟩

theorem spliceV_mid {xs ys : List Value} {o j : Nat} (hl : o + ys.length ≤ xs.length) (hj : j < ys.length) : (spliceV xs o ys)[o + j]? = ys[j]? := by
  unfold spliceV
  rw [List.append_assoc, List.getElem?_append_right (by simp; omega)]
  simp only [List.length_take, show min o xs.length = o by omega]
  rw [List.getElem?_append_left (by omega)]
  congr 1; omega

/-- More cells of a block of spare places are given away. -/
theorem SR.growTip (s : SR Gl base F w G tmps sl h) {k hw : Nat} {ys xs : List Value} {elem : TypeId} {fz : Nat × Nat} (hkb : base ≤ k) (hk : G.role k = .tip hw) (hrow : w.heap[k]? = some (.cells ⟨ys⟩ elem fz))
    (hno : ∀ l t, TipAt F w G tmps sl h l t → t.1 ≠ k) (hl : hw + xs.length ≤ ys.length) :
    Ext w G (rowPut w k (spliceV ys hw xs) elem fz) ⟨fun j => if j = k then .tip (hw + xs.length) else G.role j, G.loc⟩ ∧
    SR Gl base F (rowPut w k (spliceV ys hw xs) elem fz) ⟨fun j => if j = k then .tip (hw + xs.length) else G.role j, G.loc⟩ tmps sl h := by
  have hr := heap_lt hrow
  have E : Ext w G (rowPut w k (spliceV ys hw xs) elem fz) ⟨fun j => if j = k then .tip (hw + xs.length) else G.role j, G.loc⟩ := by
    refine ⟨fun j off x hx hi => ?_, fun _ _ h => h⟩
    by_cases hj : j = k
    · subst hj
      simp only [Gh.I, hk] at hi
      refine ⟨?_, ?_⟩
      · rw [cell_rowPut hr, spliceV_get hl (.inl hi), ← cell_row hrow]; exact hx
      · simp only [Gh.I, if_pos]; omega
    · refine ⟨by rw [cell_rowPut_ne hj]; exact hx, ?_⟩
      rw [Gh.I_of_role (G := G)]; exact hi
      simp only; rw [if_neg hj]
  have ne : ∀ b' blk' r' zs, BlkR w G b' blk' r' zs → r' ≠ k := fun b' blk' r' zs B' e => by
    subst e
    have := B'.role
    rw [hk] at this
    split at this <;> cases this
  refine ⟨E, s.move E ?_ ?_ ?_ (by rw [rowPut_size]; exact s.room)⟩
  · refine ⟨s.mem.lt, ?_, s.mem.has, ?_, ?_, ?_, by rw [rowPut_size]; exact s.mem.low⟩
    · intro b' blk' r' hb' hloc'
      obtain ⟨zs, B'⟩ := s.mem.blk b' blk' r' hb' hloc'
      have hrr := ne _ _ _ _ B'
      obtain ⟨el, sp', hrow'⟩ := B'.row
      exact ⟨zs, ⟨B'.loc, ⟨el, sp', by rw [rowPut_ne hrr]; exact hrow'⟩, B'.vals.ext E, B'.one, B'.esz, by simp only; rw [if_neg hrr]; exact B'.role⟩⟩
    · intro r b hr
      simp only at hr ⊢
      split at hr
      · cases hr
      · exact s.mem.own r b hr
    · intro r hr'
      simp only
      rw [if_neg (by omega)]
      exact s.mem.old r hr'
    · intro r hr'
      rw [rowPut_size] at hr'
      simp only
      rw [if_neg (by omega)]
      exact s.mem.new r hr'
  · intro l t a
    cases a with
    | slot hv hx ht => exact .slot hv hx ht
    | fr ht => exact .fr ht
    | @cell b' o' r' blk' v x t hb' hv hr' hx ht =>
      obtain ⟨zs, B'⟩ := s.mem.blk b' blk' r' hb' hr'
      rw [cell_rowPut_ne (ne _ _ _ _ B')] at hx
      exact .cell hb' hv hr' hx ht
  · rintro l t a ⟨h1, h2, cs', el, fz', h3, h4⟩
    have hkt := hno l t a
    exact ⟨h1, by simp only; rw [if_neg hkt]; exact h2, cs', el, fz', by rw [rowPut_ne hkt]; exact h3, h4⟩

theorem flatMap_length {esz : Nat} : ∀ {vs : List AV}, (∀ v ∈ vs, v.cells.length = esz) → (vs.flatMap AV.cells).length = vs.length * esz
  | [], _ => by simp
  | v :: vs, hl => by
    rw [List.flatMap_cons, List.length_append, flatMap_length (fun u hu => hl u (by simp [hu])), hl v (by simp), List.length_cons, Nat.succ_mul, Nat.add_comm]

/-- An append that fits, in place. -/
theorem SR.appendTip (s : SR Gl base F w G tmps sl h) {n d k o cap esz : Nat} {vs ws : List AV} {xs ys : List Value} {elem : TypeId} {fz : Nat × Nat} (hn : sl[n]? = some (.gsl esz vs))
    (hx : tmps[n]? = some (.slice (some ⟨k, o, none⟩) vs.length cap)) (hws : 0 < ws.length) (hcap : vs.length + ws.length ≤ cap) (hrow : w.heap[k]? = some (.cells ⟨ys⟩ elem fz))
    (hl : ∀ v ∈ ws, v.cells.length = esz) (ho : (ws.flatMap AV.cells).all AV.one = true) (hv : VCs w G (ws.flatMap AV.cells) xs) :
    ∃ G', Ext w G (rowPut w k (spliceV ys (o + vs.length * esz) xs) elem fz) G' ∧ base ≤ k ∧
      SR Gl base F (rowPut w k (spliceV ys (o + vs.length * esz) xs) elem fz) G' (tmps.setIfInBounds d (.slice (some ⟨k, o, none⟩) (vs.length + ws.length) cap))
        ((sl.set n (.sl esz vs)).set d (.gsl esz (vs ++ ws))) h ∧ o + vs.length * esz + xs.length ≤ ys.length ∧ (∀ j, o + vs.length * esz ≤ j → j < o + vs.length * esz + xs.length → ¬ (fz.1 ≤ j ∧ j < fz.2)) := by
  have hlt : n < sl.length := by
    rcases Nat.lt_or_ge n sl.length with hlt | hge
    · exact hlt
    · rw [List.getElem?_eq_none hge] at hn; cases hn
  have htip : tipOf (.gsl esz vs) (.slice (some ⟨k, o, none⟩) vs.length cap) = some (k, o + vs.length * esz, o + cap * esz) := by
    simp only [tipOf]; rw [if_pos (by omega)]
  have a : TipAt F w G tmps sl h (.slot n) (k, o + vs.length * esz, o + cap * esz) := .slot hn hx htip
  obtain ⟨t1, t2, cs', el', fz', t3, t4, t5⟩ := s.tips _ _ a
  simp only at t1 t2 t3 t4 t5
  rw [hrow] at t3
  cases t3
  have hxl : xs.length = ws.length * esz := by rw [← hv.length, flatMap_length hl]
  have hend : o + vs.length * esz + xs.length ≤ o + cap * esz := by
    have : (vs.length + ws.length) * esz ≤ cap * esz := Nat.mul_le_mul_right _ hcap
    rw [Nat.add_mul] at this
    omega
  have hfit : o + vs.length * esz + xs.length ≤ ys.length := by simp at t4; omega
  have hget : sl.getD n .any = .gsl esz vs := by rw [List.getD_eq_getElem?_getD, hn]; rfl
  have s0 := s.untip n
  rw [hget] at s0
  have hno : ∀ l t, TipAt F w G tmps (sl.set n (AV.gsl esz vs).untip) h l t → t.1 ≠ k := by
    intro l t a' e
    have old : TipAt F w G tmps sl h l t ∧ l ≠ .slot n := by
      cases a' with
      | cell hb hv hr hx ht => exact ⟨.cell hb hv hr hx ht, by simp⟩
      | fr ht => exact ⟨.fr ht, by simp⟩
      | @slot i v' x' t hv' hx' ht =>
        by_cases hid : n = i
        · subst hid
          rw [List.getElem?_set_self hlt] at hv'
          cases hv'
          rw [tipOf_untip] at ht; cases ht
        · rw [List.getElem?_set_ne hid] at hv'
          exact ⟨.slot hv' hx' ht, by simp; omega⟩
    exact old.2 (s.inj _ _ _ _ old.1 a e)
  obtain ⟨E, s1⟩ := s0.growTip t1 t2 hrow hno hfit
  have hr := heap_lt hrow
  refine ⟨_, E, t1, ?_, hfit, fun j h1 h2 => t5 j h1 (by omega)⟩
  refine s1.putTip d ?_ ?_
  · have hold : VC w G (.sl esz vs) (.slice (some ⟨k, o, none⟩) vs.length cap) := by
      obtain ⟨x, hx', hr'⟩ := s.vals.get hn
      rw [Array.getElem?_toList, hx] at hx'
      cases hx'
      cases hr' with
      | gsl h => exact h
      | c h => cases h
    cases hold with
    | @sl _ _ xs0 _ _ _ _ hz hc hl0 ho0 hr0 h0 hs0 =>
      have hx0 : xs0.length = vs.length * esz := by rw [← h0.length, flatMap_length hl0]
      have := VC.sl (w := rowPut w k (spliceV ys (o + vs.length * esz) xs) elem fz) (G := ⟨fun j => if j = k then .tip (o + vs.length * esz + xs.length) else G.role j, G.loc⟩) (vs := vs ++ ws) (xs := xs0 ++ xs) (k := k) (o := o) (cap := cap) hz (by simpa using hcap)
        (by intro v hv; rcases List.mem_append.1 hv with hv | hv; exact hl0 v hv; exact hl v hv) (by rw [List.flatMap_append, List.all_append, ho0, ho]; rfl) ?_ (by rw [List.flatMap_append]; exact (h0.ext E.cell).append (hv.ext E.cell)) (.inl rfl)
      · refine .gsl ?_
        simpa using this
      · intro j x hx
        rcases Nat.lt_or_ge j xs0.length with hj | hj
        · rw [List.getElem?_append_left hj] at hx
          obtain ⟨c1, c2⟩ := hr0 j x hx
          exact E.cell _ _ _ c1 c2
        · rw [List.getElem?_append_right hj] at hx
          have hjx : j - xs0.length < xs.length := by
            rcases Nat.lt_or_ge (j - xs0.length) xs.length with h | h
            · exact h
            · rw [List.getElem?_eq_none h] at hx; cases hx
          refine ⟨?_, ?_⟩
          · rw [cell_rowPut hr, show o + j = o + vs.length * esz + (j - xs0.length) by omega, spliceV_mid hfit hjx]; exact hx
          · simp only [Gh.I, if_pos]; omega
  · intro t ht
    simp only [tipOf] at ht
    split at ht
    · rename_i hlt'
      cases ht
      refine ⟨⟨t1, ?_, ⟨spliceV ys (o + vs.length * esz) xs⟩, elem, fz, rowPut_get hr, ?_, ?_⟩, ?_⟩
      · simp only [if_pos, List.length_append]; rw [hxl, Nat.add_mul, Nat.add_assoc]
      · simp only [List.size_toArray]; rw [spliceV_length hfit]; simpa using t4
      · intro j h1 h2
        simp only [List.length_append, Nat.add_mul] at h1
        exact t5 j (by omega) h2
      · intro l t' a' e
        exfalso
        have := s1.tips l t' a'
        refine hno l t' ?_ e
        cases a' with
        | slot hv' hx' ht => exact .slot hv' hx' ht
        | fr ht => exact .fr ht
        | @cell b' o' r' blk' v x t hb' hv hr' hx ht =>
          obtain ⟨zs, B'⟩ := s.mem.blk b' blk' r' hb' hr'
          have hrk : r' ≠ k := fun e => by
            subst e
            have := B'.role
            rw [t2] at this
            split at this <;> cases this
          rw [cell_rowPut_ne hrk] at hx
          exact .cell hb' hv hr' hx ht
    · cases ht

def Gh.shut (G : Gh) (b : Nat) : Gh := ⟨fun k => match G.role k with | .own b' => if b' = b then .imm else .own b' | r => r, G.loc⟩

theorem Gh.shut_role_ne {G : Gh} {b k : Nat} (h : G.role k ≠ .own b) : (G.shut b).role k = G.role k := by
  simp only [Gh.shut]
  split
  · rename_i b' hb'
    split
    · rename_i e; subst e; exact absurd hb' h
    · exact hb'.symm
  · rfl

/-- An own block that nobody writes from now on. -/
theorem SR.shut (s : SR Gl base F w G tmps sl h) (b : Nat) : Ext w G w (G.shut b) ∧ SR Gl base F w (G.shut b) tmps sl (h.modify b fun blk => { blk with ro := true }) := by
  have E : Ext w G w (G.shut b) := by
    refine ⟨fun k off x hx hi => ⟨hx, ?_⟩, fun _ _ h => h⟩
    by_cases hk : G.role k = .own b
    · simp [Gh.I, hk] at hi
    · rw [Gh.I_of_role (Gh.shut_role_ne hk)]; exact hi
  refine ⟨E, s.move E ?_ ?_ ?_ s.room⟩
  · refine ⟨fun b r hr => by simpa using s.mem.lt b r hr, ?_, ?_, ?_, ?_, ?_, s.mem.low⟩
    case refine_2 =>
      intro b' blk' hb' hz
      rw [List.getElem?_modify] at hb'
      cases hb0 : h[b']? with
      | none => rw [hb0] at hb'; cases hb'
      | some blk0 =>
        refine s.mem.has b' blk0 hb0 ?_
        rw [hb0] at hb'
        by_cases hbb : b = b' <;> simp [hbb] at hb' <;> subst hb' <;> exact hz
    · intro b' blk' r hb' hloc'
      rw [List.getElem?_modify] at hb'
      cases hb0 : h[b']? with
      | none => rw [hb0] at hb'; cases hb'
      | some blk0 =>
        rw [hb0] at hb'
        obtain ⟨ys, B⟩ := s.mem.blk b' blk0 r hb0 hloc'
        by_cases hbb : b = b'
        · subst hbb
          simp at hb'
          subst hb'
          refine ⟨ys, B.loc, B.row, B.vals.ext E, B.one, B.esz, ?_⟩
          simp only [if_true]
          have := B.role
          split at this
          · rw [Gh.shut_role_ne (by rw [this]; simp)]; exact this
          · simp only [Gh.shut, this, if_true]
        · simp [hbb] at hb'
          subst hb'
          refine ⟨ys, B.loc, B.row, B.vals.ext E, B.one, B.esz, ?_⟩
          have := B.role
          split at this
          · rename_i hro; rw [if_pos hro, Gh.shut_role_ne (by rw [this]; simp)]; exact this
          · rename_i hro; rw [if_neg hro, Gh.shut_role_ne (by rw [this]; simp; omega)]; exact this
    · intro r b' hr
      have : G.role r = .own b' := by
        simp only [Gh.shut] at hr
        split at hr
        · rename_i b2 hb2
          split at hr
          · cases hr
          · cases hr; exact hb2
        · exact hr
      exact s.mem.own r b' this
    · intro r hr
      rw [Gh.shut_role_ne (by rw [s.mem.old r hr]; exact F.notOwn _ _)]; exact s.mem.old r hr
    · intro r hr
      rw [Gh.shut_role_ne (by rw [s.mem.new r hr]; simp)]; exact s.mem.new r hr
  · intro l t a
    cases a with
    | slot hv hx ht => exact .slot hv hx ht
    | fr ht => exact .fr ht
    | @cell b' o' r' blk' v x t hb' hv hr' hx ht =>
      rw [List.getElem?_modify] at hb'
      cases hb0 : h[b']? with
      | none => rw [hb0] at hb'; cases hb'
      | some blk0 =>
        rw [hb0] at hb'
        by_cases hbb : b = b'
        · subst hbb
          simp at hb'
          subst hb'
          exact .cell hb0 hv hr' hx ht
        · simp [hbb] at hb'
          subst hb'
          exact .cell hb0 hv hr' hx ht
  · rintro l t a ⟨h1, h2, h3⟩
    exact ⟨h1, by rw [Gh.shut_role_ne (by rw [h2]; simp)]; exact h2, h3⟩

theorem Gh.shut_I {G : Gh} {b k o : Nat} (hi : G.I k o) : (G.shut b).I k o := by
  by_cases hk : G.role k = .own b
  · simp [Gh.I, hk] at hi
  · rw [Gh.I_of_role (Gh.shut_role_ne hk)]; exact hi

theorem SR.shutAll (l : List Nat) : ∀ {G : Gh} {h : Store}, SR Gl base F w G tmps sl h → ∃ G', Ext w G w G' ∧ SR Gl base F w G' tmps sl (sealAll h l) ∧ G'.loc = G.loc ∧ (∀ k o, G.I k o → G'.I k o) := by
  induction l with
  | nil => exact fun s => ⟨_, Ext.refl _ _, s, rfl, fun _ _ h => h⟩
  | cons b l ih =>
    intro G h s
    obtain ⟨E, s1⟩ := s.shut b
    obtain ⟨G', E', s2, hl, hi⟩ := ih s1
    exact ⟨G', E.trans E', s2, hl, fun k o h => hi k o (Gh.shut_I h)⟩

end Go.Proofs.YteaopgkajbfkeaaGreatDoor
