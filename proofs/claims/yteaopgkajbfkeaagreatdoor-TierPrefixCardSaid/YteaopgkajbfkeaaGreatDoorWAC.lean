/- Operations that make memory or write it. Slices that are made, and appends. Appends. Calls: what is handed over as data, what is handed back. Calls as operations. -/
import Derived.Test.YteaopgkajbfkeaaGreatDoorWAB
set_option linter.unusedSimpArgs false
set_option linter.unusedVariables false
namespace Go.Proofs.YteaopgkajbfkeaaGreatDoor
open Go Go.RowKit

variable {Gl : Nat → Option (List AV)} {base : Nat} {F : Fr} {w : World} {G : Gh} {sl : List AV} {h : Store} {a : Act} {P : Program} {C : Env} {b0 : Nat}

def setOpt (sl : List AV) (dst : Option Nat) (v : AV) : List AV := match dst with | some d => sl.set d v | none => sl

/-- What an operation's end must bear: the memory has grown, and the state's relation holds with the new value in its slot. -/
def Ends (Gl : Nat → Option (List AV)) (base : Nat) (F : Fr) (w : World) (G : Gh) (a : Act) (dst : Option Nat) (sl' : List AV) (h' : Store) (y : Value) (w' : World) : Prop :=
  ∃ G', Ext w G w' G' ∧ Below base w w' ∧ SR Gl base F w' G' (a.put dst y).tmps sl' h'

/-- The model's computation ends with a value. -/
def Makes (P : Program) (Gl : Nat → Option (List AV)) (base : Nat) (F : Fr) (w : World) (G : Gh) (a : Act) (dst : Option Nat) (sl' : List AV) (h' : Store) (m : Sem Value) : Prop :=
  ∃ y w', m.run P w = .ok y w' ∧ Ends Gl base F w G a dst sl' h' y w'

theorem SR.putO (s : SR Gl base F w G a.tmps sl h) {v : AV} {y : Value} (dst : Option Nat) (hv : VR w G v y) (hn : tipOf v y = none) : SR Gl base F w G (a.put dst y).tmps (setOpt sl dst v) h := by
  cases dst with
  | none => exact s
  | some d => exact s.put d hv hn

theorem Gives.makes (s : SR Gl base F w G a.tmps sl h) {m : Sem Value} {v : AV} (dst : Option Nat) (g : Gives P w G m v) : Makes P Gl base F w G a dst (setOpt sl dst v) h m := by
  obtain ⟨y, h1, h2, h3⟩ := g
  exact ⟨y, w, h1, G, Ext.refl _ _, Below.refl _ _, s.putO dst h2 h3⟩

theorem VR.oneCell {v : AV} {x : Value} (hv : VR w G v x) (ho : v.one = true) : x.oneCell' = true := by
  cases hv with
  | c hc => cases hc <;> first | rfl | cases ho
  | gsl hc => obtain ⟨xs, k, o, sp, cap, rfl, _⟩ := hc.sls; rfl
  | osl => rfl
  | ref => rfl
  | agg => cases ho
  | tup => cases ho
  | fn => rfl

theorem cells_of_one {x : Value} (h : x.oneCell' = true) : x.cells = #[x] := by cases x <;> first | rfl | cases h

theorem VR.cellsOf {v : AV} {x : Value} {cs : List AV} (hv : VR w G v x) (hc : v.cellsOf = some cs) : VRs w G cs x.cells.toList ∧ cs.all AV.one = true := by
  cases v
  case agg vs =>
    simp only [AV.cellsOf, Option.some.injEq] at hc
    subst hc
    obtain ⟨xs, rfl, h1, h2⟩ := hv.aggs
    exact ⟨h1, h2⟩
  all_goals
    simp only [AV.cellsOf] at hc
    split at hc
    · rename_i ho
      cases hc
      rw [cells_of_one (hv.oneCell ho)]
      exact ⟨.cons hv .nil, by simp [ho]⟩
    · cases hc

theorem VRs.oneCells : ∀ {cs : List AV} {xs : List Value}, VRs w G cs xs → cs.all AV.one = true → ∀ x ∈ xs, x.oneCell' = true
  | _, _, .nil, _ => by simp
  | _, _, .cons h t, ho => by
    simp only [List.all_cons, Bool.and_eq_true] at ho
    intro x hx
    rcases List.mem_cons.1 hx with rfl | hx
    · exact h.oneCell ho.1
    · exact t.oneCells ho.2 x hx

theorem untips (cs : List AV) : ∀ v ∈ cs.map AV.untip, v.untip = v := by
  intro v hv
  obtain ⟨u, _, rfl⟩ := List.mem_map.1 hv
  exact untip_untip u

def constsB : List Value → List KV → Bool
  | [], [] => true
  | v :: vs, c :: cs => constB v c && constsB vs cs
  | _, _ => false

theorem constsB_ok : ∀ {vs : List Value} {cs : List KV}, constsB vs cs = true → VCs w G (cs.map KV.av) vs
  | [], [], _ => .nil
  | v :: vs, c :: cs, h => by
    simp only [constsB, Bool.and_eq_true] at h
    exact .cons (constB_ok h.1) (constsB_ok h.2)
  | [], _ :: _, h => by cases h
  | _ :: _, [], h => by cases h

theorem KV.all_one (cs : List KV) : (cs.map KV.av).all AV.one = true := by
  simp only [List.all_map, List.all_eq_true]; exact fun c _ => KV.av_one c

/-- The zero value of a type, cell by cell. -/
def zeroB (P : Program) (t : TypeId) (zero : List KV) : Bool :=
  match P.info? t with
  | some i => (match i.zero with | some z => constsB z.cells.toList zero && i.size == zero.length | none => false)
  | none => false

theorem zeroB_ok {t : TypeId} {zero : List KV} (hb : zeroB P t zero = true) : ∃ i z, P.info? t = some i ∧ i.zero = some z ∧ constsB z.cells.toList zero = true ∧ i.size = zero.length := by
  unfold zeroB at hb
  split at hb
  · rename_i i hi
    split at hb
    · rename_i z hz
      simp only [Bool.and_eq_true, beq_iff_eq] at hb
      exact ⟨i, z, hi, hz, hb.1, hb.2⟩
    · cases hb
  · cases hb

theorem run_zeroValue {t : TypeId} {i : TypeInfo} {z : Value} (hi : P.info? t = some i) (hz : i.zero = some z) (w : World) : (zeroValue t).run P w = .ok z w := by
  simp [zeroValue, typeInfo, hi, hz]

/-- A block is made: the general form. -/
theorem makes_own (s : SR Gl base F w G a.tmps sl h) {cs : List AV} {xs : Array Value} {esz : Nat} (ag : Bool) (elem : TypeId) (dst : Option Nat) (v : AV) (y : Value) (hv : VRs w G cs xs.toList) (ho : cs.all AV.one = true)
    (he : 0 < esz ∧ (ag = false → esz = 1)) (hu : ∀ v ∈ cs, v.untip = v) (hy : ∀ w' G', G'.loc h.length = some w.heap.size → VR w' G' v y) (hn : tipOf v y = none) :
    Ends Gl base F w G a dst (setOpt sl dst v) (h ++ [⟨cs, esz, ag, false⟩]) y { w with heap := w.heap.push (.cells xs elem) } := by
  obtain ⟨xs⟩ := xs
  have s' := s.newOwn ag elem hv ho he hu
  exact ⟨_, ext_newOwn _ _ _ _ (s.mem.free (Nat.le_refl _)), below_push _ _ s.room, s'.putO dst (hy _ _ (by simp [Gh.newOwn])) hn⟩

theorem loc_new (_ : SR Gl base F w G a.tmps sl h) {G' : Gh} (e : G'.loc h.length = some w.heap.size) : G'.loc (h.length) = some w.heap.size := e

theorem op_alloc (s : SR Gl base F w G a.tmps sl h) {t : TypeId} {esz : Nat} {ag : Bool} {zero : List KV} {v : AV} {h' : Store} (dst : Option Nat) (hz : zeroB P t zero = true) (he1 : 0 < esz ∧ (ag = false → esz = 1))
    (he : evOp C b0 (.alloc esz ag zero) sl h = some (v, h')) : Makes P Gl base F w G a dst (setOpt sl dst v) h' (Instr.alloc t true (.tuple #[])) := by
  simp only [evOp, Option.some.injEq, Prod.mk.injEq] at he
  obtain ⟨rfl, rfl⟩ := he
  obtain ⟨i, z, hi, hz, hc, hl⟩ := zeroB_ok hz
  refine ⟨.pointer (some ⟨w.heap.size, 0, none⟩), _, ?_, makes_own s (xs := z.cells) ag t dst _ _ (constsB_ok hc).toVRs (KV.all_one _) he1 ?_ ?_ rfl⟩
  · simp only [Instr.alloc, Sem.run_bind, run_zeroValue hi hz, Result.andThen_ok, newVar, newRow, run_newObj, Sem.run_pure]
  · intro v hv
    obtain ⟨c, _, rfl⟩ := List.mem_map.1 hv
    exact KV.av_untip c
  · exact fun w' G' e => .ref (loc_new s e)

theorem op_allocH (s : SR Gl base F w G a.tmps sl h) {t : TypeId} {d esz : Nat} {ag : Bool} {zero : List KV} {v : AV} {h' : Store} (dst : Option Nat) (hz : zeroB P t zero = true) (he1 : 0 < esz ∧ (ag = false → esz = 1))
    (he : evOp C b0 (.allocH d esz ag zero) sl h = some (v, h')) : Makes P Gl base F w G a dst (setOpt sl dst v) h' (Instr.alloc t true (.tuple #[])) := by
  simp only [evOp] at he
  split at he
  · rename_i n _
    split at he
    · rename_i blk hn
      split at he
      · rename_i hz0
        cases he
        obtain ⟨i, z, hi, hz, hc, hl⟩ := zeroB_ok hz
        have s' := s.fillOwn ag t (xs := z.cells.toList) (constsB_ok hc).toVRs (KV.all_one _) he1 (fun v hv => by obtain ⟨c, _, rfl⟩ := List.mem_map.1 hv; exact KV.av_untip c) hn hz0.1
        have hf : G.loc n = none := by
          cases hl : G.loc n with
          | none => rfl
          | some r => obtain ⟨ys, B⟩ := s.mem.blk n blk r hn hl; have := B.esz.1; have := hz0.1; omega
        refine ⟨.pointer (some ⟨w.heap.size, 0, none⟩), _, ?_, ⟨_, ext_newOwn _ _ _ _ hf, below_push _ _ s.room, s'.putO dst (.ref (by simp [Gh.newOwn])) rfl⟩⟩
        simp only [Instr.alloc, Sem.run_bind, run_zeroValue hi hz, Result.andThen_ok, newVar, newRow, run_newObj, Sem.run_pure]
      · cases he
    · cases he
  · cases he

theorem op_box (s : SR Gl base F w G a.tmps sl h) {t : TypeId} {esz sz : Nat} {ag : Bool} {x : Operand} {p : POpd} {v : AV} {h' : Store} (dst : Option Nat) (hp : opdB x p = true) (he1 : 0 < esz ∧ (ag = false → esz = 1))
    (he : evOp C b0 (.box esz ag sz p) sl h = some (v, h')) : Makes P Gl base F w G a dst (setOpt sl dst v) h' (Instr.box t (a.eval x)) := by
  have hx := opdB_ok s hp
  simp only [evOp] at he
  generalize POpd.get sl p = u at hx he
  cases hc : u.cellsOf with
  | none => rw [hc] at he; cases he
  | some cs =>
    rw [hc] at he
    simp only at he
    split at he
    · simp only [Option.some.injEq, Prod.mk.injEq] at he
      obtain ⟨rfl, rfl⟩ := he
      obtain ⟨h1, h2⟩ := hx.cellsOf hc
      refine ⟨.pointer (some ⟨w.heap.size, 0, none⟩), _, ?_, makes_own s (xs := (a.eval x).cells) ag t dst _ _ h1.untip (by rw [all_one_untip]; exact h2) he1 (untips _) ?_ rfl⟩
      · simp only [Instr.box, newVar, newRow, Sem.run_bind, run_newObj, Result.andThen_ok, Sem.run_pure]
      · exact fun w' G' e => .ref (loc_new s e)
    · cases he

/-- Parts that are filled in. 'place': where the model lays the i-th part. -/
def partsB (place : Nat → Option (Nat × Nat)) : List (Nat × Operand) → List (Nat × Nat × POpd) → Bool
  | [], [] => true
  | (i, o) :: r, (off, sz, p) :: r' => decide (place i = some (off, sz)) && opdB o p && partsB place r r'
  | _, _ => false

theorem foldl_splice (off : Nat) : ∀ (vs : List Value) (k : Nat) (cs : List Value), off + k + vs.length ≤ cs.length → ((vs.zipIdx k).foldl (fun (cs : Array Value) p => cs.setIfInBounds (off + p.2) p.1) ⟨cs⟩) = ⟨spliceV cs (off + k) vs⟩
  | [], k, cs, _ => by simp [spliceV]
  | x :: vs, k, cs, hl => by
    simp only [List.length_cons] at hl
    simp only [List.zipIdx_cons, List.foldl_cons]
    have : (⟨cs⟩ : Array Value).setIfInBounds (off + k) x = ⟨cs.set (off + k) x⟩ := by
      apply Array.ext'
      simp
    rw [this, foldl_splice off vs (k + 1) (cs.set (off + k) x) (by simp; omega)]
    congr 1
    simp only [spliceV, List.length_cons, ← Nat.add_assoc]
    rw [List.drop_set_of_lt (by omega), List.take_set]
    have hk : (cs.take (off + k + 1)).set (off + k) x = cs.take (off + k) ++ [x] := by
      rw [List.take_succ_eq_append_getElem (by omega), List.set_append_right _ _ (by simp; omega)]
      simp [show min (off + k) cs.length = off + k by omega]
    rw [hk, List.append_assoc, List.append_assoc, List.append_assoc, show off + k + 1 + vs.length = off + k + (vs.length + 1) by omega]
    rfl

theorem fill_ok (s : SR Gl base F w G a.tmps sl h) {place : Nat → Option (Nat × Nat)} : ∀ {ops : List (Nat × Operand)} {ps : List (Nat × Nat × POpd)} {cs cs' : List AV} {xs : List Value}, partsB place ops ps = true → VRs w G cs xs → cs.all AV.one = true →
    (∀ v ∈ cs, v.untip = v) → fillParts sl ps cs = some cs' → ∃ xs', Instr.fill place ⟨xs⟩ (ops.map fun p => (p.1, a.eval p.2)) = some ⟨xs'⟩ ∧ VRs w G cs' xs' ∧ cs'.all AV.one = true ∧ (∀ v ∈ cs', v.untip = v) ∧ cs'.length = cs.length
  | [], [], cs, cs', xs, _, hv, ho, hu, hf => by
    simp only [fillParts, Option.some.injEq] at hf
    subst hf
    exact ⟨xs, rfl, hv, ho, hu, rfl⟩
  | (i, o) :: r, (off, sz, p) :: r', cs, cs', xs, hb, hv, ho, hu, hf => by
    simp only [partsB, Bool.and_eq_true, decide_eq_true_eq] at hb
    obtain ⟨⟨b1, b2⟩, b3⟩ := hb
    have hx := opdB_ok s b2
    simp only [fillParts] at hf
    cases hc : (POpd.get sl p).cellsOf with
    | none => rw [hc] at hf; cases hf
    | some v =>
      rw [hc] at hf
      simp only at hf
      split at hf
      · rename_i hfit
        obtain ⟨h1, h2⟩ := hx.cellsOf hc
        have hvl : (a.eval o).cells.toList.length = sz := by rw [← h1.length]; exact hfit.1
        have hxl : off + sz ≤ xs.length := by rw [← hv.length]; exact hfit.2
        have hs : VRs w G (splice cs off (v.map AV.untip)) (spliceV xs off (a.eval o).cells.toList) := hv.spliced h1.untip off
        obtain ⟨xs', i1, i2, i3, i4, i5⟩ := fill_ok s (ops := r) b3 hs (all_splice ho (by rw [all_one_untip]; exact h2) off) (by
          intro u hu'
          unfold splice at hu'
          simp only [List.mem_append] at hu'
          rcases hu' with (hu' | hu') | hu'
          · exact hu u (List.mem_of_mem_take hu')
          · exact untips _ u hu'
          · exact hu u (List.mem_of_mem_drop hu')) hf
        refine ⟨xs', ?_, i2, i3, i4, ?_⟩
        · simp only [List.map_cons, Instr.fill, b1]
          rw [if_neg (by simp at hvl ⊢; omega)]
          have hfold : (a.eval o).cells.zipIdx.foldl (fun cs (c, j) => cs.setIfInBounds (off + j) c) (⟨xs⟩ : Array Value) = ⟨spliceV xs off (a.eval o).cells.toList⟩ := by
            rw [← Array.foldl_toList, Array.toList_zipIdx]
            exact foldl_splice off _ 0 xs (by omega)
          rw [hfold]
          exact i1
        · rw [i5]
          simp only [splice, List.length_append, List.length_take, List.length_drop, List.length_map]
          omega
      · cases hf
  | [], _ :: _, _, _, _, hb, _, _, _, _ => by cases hb
  | _ :: _, [], _, _, _, hb, _, _, _, _ => by cases hb

/-- Where the parts of a struct or an array lie. -/
def placeOf (P : Program) (t : TypeId) : Option (Nat → Option (Nat × Nat)) :=
  match P.underlying t with
  | some (.array _ e) => (P.info? e).map fun ie i => some (i * ie.size, ie.size)
  | some (.struct fields) => (fields.toList.mapM (fun f => (P.info? f.type).map fun i => (f.offset, i.size))).map fun places i => places.toArray[i]?
  | _ => none

def buildB (P : Program) (t : TypeId) (ops : List (Nat × Operand)) (ps : List (Nat × Nat × POpd)) : Bool :=
  match placeOf P t with
  | some place => partsB place ops ps
  | none => false

theorem op_build (s : SR Gl base F w G a.tmps sl h) {t : TypeId} {zero : List KV} {ops : Array (Nat × Operand)} {ps : List (Nat × Nat × POpd)} {v : AV} {h' : Store} (hz : zeroB P t zero = true) (hb : buildB P t ops.toList ps = true)
    (he : evOp C b0 (.build zero ps) sl h = some (v, h')) : Gives P w G (Instr.build t (ops.map fun (i, x) => (i, a.eval x))) v ∧ h' = h := by
  simp only [evOp, Option.map_eq_some_iff, Prod.mk.injEq] at he
  obtain ⟨cs, hcs, rfl, rfl⟩ := he
  obtain ⟨i, z, hi, hz, hc, hl⟩ := zeroB_ok hz
  have hzv := (constsB_ok (w := w) (G := G) hc).toVRs
  unfold buildB at hb
  split at hb
  · rename_i place hpl
    obtain ⟨xs', f1, f2, f3, f4, f5⟩ := fill_ok s hb hzv (KV.all_one _) (by
      intro v hv
      obtain ⟨c, _, rfl⟩ := List.mem_map.1 hv
      exact KV.av_untip c) hcs
    refine ⟨⟨.agg ⟨xs'⟩, ?_, .agg f2 f3, rfl⟩, rfl⟩
    apply run_build
    have hparts : (ops.map fun (i, x) => (i, a.eval x)).toList = ops.toList.map fun p => (p.1, a.eval p.2) := by simp
    rw [hparts]
    have hzc : z.cells = ⟨z.cells.toList⟩ := rfl
    unfold placeOf at hpl
    unfold Program.built
    split at hpl
    · rename_i n e hu
      simp only [Option.map_eq_some_iff] at hpl
      obtain ⟨ie, hie, rfl⟩ := hpl
      simp only [hi, hu, hz, hie]
      rw [hzc]; exact f1
    · rename_i fields hu
      simp only [Option.map_eq_some_iff] at hpl
      obtain ⟨places, hp, rfl⟩ := hpl
      simp only [hi, hu, hz, hp]
      rw [hzc]; exact f1
    · cases hpl
  · cases hb

theorem op_store (s : SR Gl base F w G a.tmps sl h) {t : TypeId} {sz : Nat} {x y : Operand} {p q : POpd} {v : AV} {h' : Store} (dst : Option Nat) (ht : ∃ i, P.info? t = some i ∧ i.size = sz) (hp : opdB x p = true) (hq : opdB y q = true)
    (he : evOp C b0 (.store sz p q) sl h = some (v, h')) :
    ∃ w', (Instr.storeAt t (a.eval x) (a.eval y)).run P w = .ok () w' ∧ Ends Gl base F w G a dst (setOpt sl dst v) h' undef w' := by
  obtain ⟨i, hi, rfl⟩ := ht
  have hx := opdB_ok s hp
  have hy := opdB_ok s hq
  simp only [evOp] at he
  generalize POpd.get sl p = u at hx he
  generalize POpd.get sl q = uv at hy he
  cases u <;> simp only [reduceCtorEq] at he
  rename_i b off
  cases hb : getB h b with
  | none => rw [hb] at he; simp only [reduceCtorEq] at he
  | some blk =>
    cases hc : uv.cellsOf with
    | none => rw [hb, hc] at he; simp only [reduceCtorEq] at he
    | some cs =>
      rw [hb, hc] at he
      simp only at he
      split at he
      · rename_i hcond
        simp only [Option.some.injEq, Prod.mk.injEq] at he
        obtain ⟨rfl, rfl⟩ := he
        obtain ⟨r, e, hr⟩ := hx.refs
        obtain ⟨ys, B⟩ := s.mem.blk b blk r (getB_some hb).1 hr
        obtain ⟨el, sp, hrow⟩ := B.row
        obtain ⟨h1, h2⟩ := hy.cellsOf hc
        obtain ⟨E, s'⟩ := s.store (o := off) (getB_some hb).1 B hrow hcond.1 h1.untip (by rw [all_one_untip]; exact h2) (untips _) (by simp; omega)
        have hlen : (a.eval y).cells.toList.length = i.size := by rw [← h1.length]; exact hcond.2.1
        refine ⟨_, ?_, G, E, below_rowPut w _ _ _ (s.mem.low _ _ hr).1, s'.putO dst (.c (.tup .nil)) rfl⟩
        rw [e]
        simp only [Instr.storeAt, Instr.sureAddr, Sem.run_bind, Sem.run_pure, Result.andThen_ok, storeVar, run_sizeOf P hi]
        have hne : ¬ ((a.eval y).cells.size ≠ i.size) := by simpa using hlen
        rw [if_neg hne]
        have := run_storeRow P r off el (0, 0) (a.eval y).cells.toList 0 (ys ++ sp) w hrow (by have := hcond.2.2.1; rw [B.vals.length] at this; rw [List.length_append]; omega) (h1.oneCells h2) (by intro j _ _; simp)
        simpa using this
      · cases he

end Go.Proofs.YteaopgkajbfkeaaGreatDoor
namespace Go.Proofs.YteaopgkajbfkeaaGreatDoor
open Go Go.RowKit

variable {Gl : Nat → Option (List AV)} {base : Nat} {F : Fr} {w : World} {G : Gh} {sl : List AV} {h : Store} {a : Act} {P : Program} {C : Env} {b0 : Nat}

theorem drew_ext (w : World) (G : Gh) : Ext w G w.drew G := ⟨fun _ _ _ h i => ⟨h, i⟩, fun _ _ h => h⟩
theorem SR.drew {tmps : Array Value} (s : SR Gl base F w G tmps sl h) : SR Gl base F w.drew G tmps sl h := by
  refine s.move (drew_ext w G) ⟨s.mem.lt, ?_, s.mem.has, s.mem.own, s.mem.old, s.mem.new, s.mem.low⟩ ?_ (fun _ _ _ t => t) s.room
  · intro b blk r hb hr
    obtain ⟨ys, B⟩ := s.mem.blk b blk r hb hr
    exact ⟨ys, B.loc, B.row, B.vals.ext (drew_ext w G), B.one, B.esz, B.role⟩
  · intro l t a
    cases a with
    | slot hv hx ht => exact .slot hv hx ht
    | fr ht => exact .fr ht
    | cell hb hv hr hx ht => exact .cell hb hv hr hx ht
theorem below_drew (base : Nat) (w : World) : Below base w w.drew := (Below.refl base w).drew

theorem VR.closedN : ∀ (d : Nat) {v : AV} {x : Value}, VR w G v x → AV.closedN d v = true → VC w G v x
  | 0, _, _, _, hc => by simp [AV.closedN] at hc
  | d + 1, v, x, hv, hc => by
    have L : ∀ {vs : List AV} {xs : List Value}, VRs w G vs xs → vs.all (AV.closedN d) = true → VCs w G vs xs := by
      intro vs xs hv
      induction vs generalizing xs with
      | nil => intro _; obtain _ | _ := hv; exact .nil
      | cons v vs ih =>
        intro hc
        obtain _ | ⟨h1, h2⟩ := hv
        simp only [List.all_cons, Bool.and_eq_true] at hc
        exact .cons (VR.closedN d h1 hc.1) (ih h2 hc.2)
    cases hv with
    | c h => exact h
    | gsl => cases hc
    | osl => cases hc
    | ref => cases hc
    | agg h ho => exact .agg (L h hc) ho
    | tup h => exact .tup (L h hc)
    | fn f h h' =>
      simp only [AV.closedN, Bool.and_eq_true] at hc
      exact .fn f (L h hc.1) (L h' hc.2)

theorem VRs.closed : ∀ {vs : List AV} {xs : List Value}, VRs w G vs xs → vs.all AV.closed = true → VCs w G vs xs
  | _, _, .nil, _ => .nil
  | _, _, .cons h t, hc => by
    simp only [List.all_cons, Bool.and_eq_true] at hc
    exact .cons (h.closedN 4 hc.1) (t.closed hc.2)

/-- Closed elements have closed cells. -/
theorem closedN_mono : ∀ (d : Nat) (v : AV), AV.closedN d v = true → AV.closedN (d + 1) v = true
  | 0, _, h => by simp [AV.closedN] at h
  | d + 1, v, h => by
    have L : ∀ vs : List AV, vs.all (AV.closedN d) = true → vs.all (AV.closedN (d + 1)) = true := by
      intro vs hv
      simp only [List.all_eq_true] at *
      exact fun x hx => closedN_mono d x (hv x hx)
    cases v <;> simp only [AV.closedN, Bool.and_eq_true] at h ⊢ <;> first
      | exact L _ h
      | exact ⟨L _ h.1, L _ h.2⟩
      | exact closedN_mono d _ h
      | exact h

theorem closed_cells {v : AV} (h : v.closed = true) : v.cells.all AV.closed = true := by
  unfold AV.closed at *
  cases v <;> simp only [AV.cells, List.all_cons, List.all_nil, Bool.and_true] <;> try exact h
  rename_i cs
  simp only [AV.closedN, List.all_eq_true] at h ⊢
  exact fun x hx => closedN_mono 3 x (h x hx)

theorem closed_flat : ∀ {vs : List AV}, vs.all AV.closed = true → (vs.flatMap AV.cells).all AV.closed = true
  | [], _ => rfl
  | v :: vs, h => by
    simp only [List.all_cons, Bool.and_eq_true] at h
    rw [List.flatMap_cons, List.all_append, closed_cells h.1, closed_flat h.2]; rfl

theorem closed_untip {v : AV} (h : v.closed = true) : v.untip = v := by
  cases v <;> first | rfl | (simp [AV.closed, AV.closedN] at h)

theorem getElem?_rep {α : Type} (z : List α) (n j : Nat) (hj : j < n * z.length) : (List.replicate n z).flatten[j]? = z[j % z.length]? := by
  induction n generalizing j with
  | zero => simp at hj
  | succ n ih =>
    rw [List.replicate_succ, List.flatten_cons]
    rw [Nat.succ_mul] at hj
    rcases Nat.lt_or_ge j z.length with hlt | hge
    · rw [List.getElem?_append_left hlt, Nat.mod_eq_of_lt hlt]
    · rw [List.getElem?_append_right hge, ih (j - z.length) (by omega)]
      congr 1
      exact (Nat.mod_eq_sub_mod hge).symm

/-- The cells of a new row of zeros. -/
theorem zeros_ok {zero : List KV} {z : Array Value} (hc : constsB z.toList zero = true) (n : Nat) : VCs w G ((List.replicate n (zero.map KV.av)).flatten) (madeCells z (n * zero.length)).toList := by
  have hv := constsB_ok (w := w) (G := G) hc
  have hzl : zero.length = z.toList.length := by simpa using hv.length
  refine VCs.of_get ?_ ?_
  · simp [madeCells]
  · intro j v x h1 h2
    have hj : j < n * zero.length := by
      rcases Nat.lt_or_ge j (n * zero.length) with h | h
      · exact h
      · rw [List.getElem?_eq_none (by simp [madeCells]; omega)] at h2; cases h2
    have hz : 0 < zero.length := by
      rcases Nat.eq_zero_or_pos zero.length with h | h
      · rw [h] at hj; omega
      · exact h
    rw [getElem?_rep _ _ _ (by simpa using hj)] at h1
    simp only [List.length_map] at h1
    obtain ⟨y, hy, hvy⟩ := hv.get h1
    have hm : j % zero.length < z.size := by rw [← Array.length_toList, ← hzl]; exact Nat.mod_lt _ hz
    have : x = y := by
      simp only [madeCells, Array.getElem?_toList] at h2
      simp [hj] at h2
      rw [hzl] at hy
      simp only [Array.length_toList, Array.getElem?_toList] at hy
      rw [hzl] at hm
      simp only [Array.length_toList] at hm
      rw [Array.getElem?_eq_getElem hm] at hy
      cases hy
      rw [← h2, getElem!_pos z _ hm]
    rw [this]; exact hvy

theorem rep_all {p : AV → Bool} {z : List AV} (h : z.all p = true) (n : Nat) : (List.replicate n z).flatten.all p = true := by
  induction n with
  | zero => rfl
  | succ n ih => rw [List.replicate_succ, List.flatten_cons, List.all_append, h, ih]; rfl

theorem KV.closed (c : KV) : c.av.closed = true := by cases c <;> rfl
theorem KV.all_closed (cs : List KV) : (cs.map KV.av).all AV.closed = true := by
  simp only [List.all_map, List.all_eq_true]; exact fun c _ => KV.closed c

theorem op_mksl (s : SR Gl base F w G a.tmps sl h) {t e : TypeId} {i : TypeInfo} {own : Bool} {esz : Nat} {ag : Bool} {zero : List KV} {x y : Operand} {p q : POpd} {v : AV} {h' : Store} (dst : Option Nat) (hd : dst.isSome) (ht : P.underlying t = some (.slice e))
    (hi : P.info? e = some i) (hz : zeroB P e zero = true) (hzl : zero.length = esz) (hby : i.bytes ≤ 4096) (he1 : 0 < esz ∧ (ag = false → esz = 1)) (hp : opdB x p = true) (hq : opdB y q = true)
    (he : evOp C b0 (.mksl own esz ag zero p q) sl h = some (v, h')) : Makes P Gl base F w G a dst (setOpt sl dst v) h' (Instr.makeSlice t (a.eval x) (a.eval y)) := by
  have hx := opdB_ok s hp
  have hy := opdB_ok s hq
  simp only [evOp] at he
  cases hl : asIdx (POpd.get sl p) with
  | none => rw [hl] at he; simp only [reduceCtorEq] at he
  | some l =>
    cases hc : asIdx (POpd.get sl q) with
    | none => rw [hl, hc] at he; simp only [reduceCtorEq] at he
    | some c =>
      rw [hl, hc] at he
      simp only at he
      split at he
      · rename_i hcond
        obtain ⟨i', z, hi', hz', hzc, hsz⟩ := zeroB_ok hz
        obtain rfl : i = i' := Option.some.inj (hi.symm.trans hi')
        obtain ⟨k1, n1, e1, g1, rfl⟩ := asIdx_ok hx hl
        obtain ⟨k2, n2, e2, g2, rfl⟩ := asIdx_ok hy hc
        have hlim : LIM = 17179869184 := rfl
        have run := run_make (P := P) w t e i z ht hi hz' k1 k2 n1 n2 g1 (by omega) (by
          have : (i.bytes : Int) * n2 ≤ 4096 * 17179869184 := by
            refine Int.mul_le_mul (by omega) (by omega) g2 (by omega)
          omega) (by omega)
        rw [e1, e2]
        have zs := zeros_ok (w := w) (G := G) hzc n2.toNat
        rw [hzl] at zs
        rw [hsz, hzl] at run
        split at he
        · simp only [Option.some.injEq, Prod.mk.injEq] at he
          obtain ⟨rfl, rfl⟩ := he
          refine ⟨_, _, run, makes_own s (xs := madeCells z.cells (n2.toNat * esz)) ag e dst _ _ zs.toVRs (rep_all (KV.all_one _) _) he1 ?_ ?_ rfl⟩
          · intro v hv
            exact closed_untip (List.all_eq_true.1 (rep_all (KV.all_closed zero) n2.toNat) v hv)
          · exact fun w' G' e => .osl rfl (by omega) (Nat.le_refl _) (fun _ => ⟨_, loc_new s e, rfl⟩)
        · simp only [Option.some.injEq, Prod.mk.injEq] at he
          obtain ⟨rfl, rfl⟩ := he
          cases dst with
          | none => simp at hd
          | some d =>
            have hel : ∀ v ∈ List.replicate n1.toNat (if ag then AV.agg (zero.map KV.av) else (zero.map KV.av).headD .any), v.cells = zero.map KV.av := by
              intro v hv
              rw [List.mem_replicate] at hv
              rw [hv.2]
              cases ag with
              | true => rfl
              | false =>
                have h1 : zero.length = 1 := by rw [hzl]; exact he1.2 rfl
                match zero, h1 with
                | [c], _ => simp only [Bool.false_eq_true, if_false, List.map_cons, List.map_nil, List.headD_cons]; exact one_cells (KV.av_one c)
            have hfl : (List.replicate n1.toNat (if ag then AV.agg (zero.map KV.av) else (zero.map KV.av).headD .any)).flatMap AV.cells = (List.replicate n1.toNat (zero.map KV.av)).flatten := by
              generalize n1.toNat = m at hel
              induction m with
              | zero => rfl
              | succ m ih =>
                rw [List.replicate_succ, List.flatMap_cons, ih (fun v hv => hel v (by rw [List.replicate_succ]; exact List.mem_cons_of_mem _ hv)), hel _ (by rw [List.replicate_succ]; exact List.mem_cons_self), List.replicate_succ, List.flatten_cons]
            have z1 := zeros_ok (w := w) (G := G) hzc n1.toNat
            rw [hzl] at z1
            have hsplit : (madeCells z.cells (n2.toNat * esz)).toList = (madeCells z.cells (n1.toNat * esz)).toList ++ (madeCells z.cells (n2.toNat * esz)).toList.drop (n1.toNat * esz) := by
              have hle : n1.toNat * esz ≤ n2.toNat * esz := Nat.mul_le_mul_right _ (by omega)
              have : (madeCells z.cells (n1.toNat * esz)).toList = (madeCells z.cells (n2.toNat * esz)).toList.take (n1.toNat * esz) := by
                apply List.ext_getElem?
                intro j
                rcases Nat.lt_or_ge j (n1.toNat * esz) with hj | hj
                · rw [List.getElem?_take_of_lt hj]
                  simp [madeCells, hj, show j < n2.toNat * esz by omega]
                · rw [List.getElem?_take_eq_none hj, List.getElem?_eq_none (by simp [madeCells]; omega)]
              rw [this, List.take_append_drop]
            have s' := s.newTip (vs := List.replicate n1.toNat (if ag then AV.agg (zero.map KV.av) else (zero.map KV.av).headD .any)) (sp := (madeCells z.cells (n2.toNat * esz)).toList.drop (n1.toNat * esz)) e (0, 0) n2.toNat d he1.1
              (fun v hv => by rw [hel v hv]; simp [hzl]) (by rw [hfl]; exact rep_all (KV.all_one _) _) (by rw [hfl]; exact z1) (by simp; omega) (by rw [← hsplit]; simp [madeCells]) (by intro o _ _; simp)
            rw [← hsplit] at s'
            simp only [List.length_replicate] at s'
            exact ⟨_, _, run, G.newTip w.heap.size (n1.toNat * esz), ext_newTip _ _ _ _, below_push _ _ s.room, s'⟩
      · cases he

theorem op_strBytes (s : SR Gl base F w G a.tmps sl h) {src dt e : TypeId} {x : Operand} {p : POpd} {v : AV} {h' : Store} (dst : Option Nat) (hd : dst.isSome) (h1 : P.underlying src = some .string) (h2 : P.underlying dt = some (.slice e))
    (h3 : P.underlying e = some (.int .u8)) (hp : opdB x p = true) (he : evOp C b0 (.conv .strBytes p) sl h = some (v, h')) : Makes P Gl base F w G a dst (setOpt sl dst v) h' (convert src dt (a.eval x)) := by
  have hx := opdB_ok s hp
  simp only [evOp] at he
  generalize POpd.get sl p = u at hx he
  cases u <;> simp only [evConv, Option.map_none, reduceCtorEq] at he
  rename_i l
  split at he
  · rename_i hlim
    simp only [Option.map_some, Option.some.injEq, Prod.mk.injEq] at he
    obtain ⟨rfl, rfl⟩ := he
    have e1 := hx.str
    rw [e1]
    have run := run_bytes_of_string (P := P) w src dt e ⟨⟨l⟩⟩ h1 h2 h3
    cases dst with
    | none => simp at hd
    | some d =>
      generalize hcap : grownCap w (ByteArray.mk ⟨l⟩).size 0 e = cap at run
      have hcl : l.length ≤ cap := by
        rw [← hcap]
        simp only [grownCap, Question.cut, ba_size]
        omega
      have hbr : bytesRow ⟨⟨l⟩⟩ cap = ⟨(l.map fun (b : UInt8) => Value.int .u8 (b.toNat : Int)) ++ List.replicate (cap - l.length) (.int .u8 0)⟩ := by
        apply Array.ext'
        simp [bytesRow, ba_size]
      have hvc : VCs w G ((l.map fun (b : UInt8) => AV.int .u8 (b.toNat : Int)).flatMap AV.cells) (l.map fun (b : UInt8) => Value.int .u8 (b.toNat : Int)) := by
        rw [flat_bytes]
        clear hcl hbr hx e1 run hlim hcap
        induction l with
        | nil => exact .nil
        | cons b l ih => exact .cons (.int _ _) ih
      rw [hbr] at run
      have s' := s.drew.newTip (vs := l.map fun (b : UInt8) => AV.int .u8 (b.toNat : Int)) (esz := 1) (xs := l.map fun (b : UInt8) => Value.int .u8 (b.toNat : Int)) (sp := List.replicate (cap - l.length) (.int .u8 0)) e
        (cap, cap + 1) cap d (by omega) (by intro v hv; obtain ⟨b, _, rfl⟩ := List.mem_map.1 hv; rfl) (by rw [flat_bytes]; simp [AV.one]) (hvc.ext (drew_ext w G).cell) (by simpa using hcl)
        (by simp; omega) (by intro o _ _; omega)
      have hsz : ((⟨(l.map fun (b : UInt8) => Value.int .u8 (b.toNat : Int)) ++ List.replicate (cap - l.length) (.int .u8 0)⟩ : Array Value)).size = cap := by simp; omega
      rw [hsz] at run
      simp only [List.length_map] at s'
      exact ⟨_, _, run, G.newTip w.heap.size (l.length * 1), (drew_ext w G).trans (ext_newTip _ _ _ _), (below_drew base w).trans (below_push _ _ s.room), s'⟩
  · simp only [Option.map_none, reduceCtorEq] at he

theorem op_buildSl (s : SR Gl base F w G a.tmps sl h) {t e : TypeId} {own : Bool} {esz len : Nat} {ag : Bool} {zero : List KV} {ops : Array (Nat × Operand)} {ps : List (Nat × POpd)} {v : AV} {h' : Store} (dst : Option Nat) (hd : dst.isSome)
    (ht : P.underlying t = some (.slice e)) (hz : zeroB P e zero = true) (hzl : zero.length = esz) (h24 : len * esz ≤ 16777216) (he1 : 0 < esz ∧ (ag = false → esz = 1))
    (hb : partsB (fun i => some (i * esz, esz)) ops.toList (ps.map fun p => (p.1 * esz, esz, p.2)) = true) (he : evOp C b0 (.buildSl own esz ag len zero ps) sl h = some (v, h')) :
    Makes P Gl base F w G a dst (setOpt sl dst v) h' (Instr.buildSlice t len (ops.map fun (i, x) => (i, a.eval x))) := by
  simp only [evOp, Option.bind_eq_some_iff] at he
  obtain ⟨cs, hcs, he⟩ := he
  obtain ⟨i, z, hi, hz', hzc, hsz⟩ := zeroB_ok hz
  have zs := zeros_ok (w := w) (G := G) hzc len
  obtain ⟨xs', f1, f2, f3, f4, f5⟩ := fill_ok s hb zs.toVRs (rep_all (KV.all_one _) _) (fun v hv => closed_untip (List.all_eq_true.1 (rep_all (KV.all_closed zero) len) v hv)) hcs
  have hparts : (ops.map fun (i, x) => (i, a.eval x)).toList = ops.toList.map fun p => (p.1, a.eval p.2) := by simp
  rw [hzl] at f1 hsz
  have run : (Instr.buildSlice t len (ops.map fun (i, x) => (i, a.eval x))).run P w = .ok (.slice (some ⟨w.heap.size, 0, none⟩) len len) { w with heap := w.heap.push (.cells ⟨xs'⟩ e) } := by
    have hmc : (if len * esz = 0 then (#[] : Array Value) else z.cells) = (if len * esz = 0 then #[] else z.cells) := rfl
    by_cases h0 : len * esz = 0
    · have hme : madeCells z.cells (len * esz) = #[] := by rw [h0]; simp [madeCells]
      rw [hme] at f1
      simp only [Instr.buildSlice, Sem.run_bind, run_underlying P ht, Result.andThen_ok, run_sizeOf P hi, hsz]
      rw [if_neg (by omega)]
      simp only [h0, if_true, Sem.run_bind, Sem.run_pure, Result.andThen_ok, hparts]
      have : (Array.map (fun x => (#[] : Array Value)[x % (#[] : Array Value).size]!) (Array.range 0)) = ⟨[]⟩ := by simp
      rw [this]
      have f1' : Instr.fill (fun i => some (i * esz, esz)) ⟨[]⟩ (ops.toList.map fun p => (p.1, a.eval p.2)) = some ⟨xs'⟩ := f1
      simp only [f1', newRow, Sem.run_bind, run_newObj, Result.andThen_ok, Sem.run_pure]
    · simp only [Instr.buildSlice, Sem.run_bind, run_underlying P ht, Result.andThen_ok, run_sizeOf P hi, hsz]
      rw [if_neg (by omega)]
      simp only [h0, if_false, Sem.run_bind, Sem.run_pure, Result.andThen_ok, hparts, run_zeroValue hi hz']
      have f1' : Instr.fill (fun i => some (i * esz, esz)) (Array.map (fun x => z.cells[x % z.cells.size]!) (Array.range (len * esz))) (ops.toList.map fun p => (p.1, a.eval p.2)) = some ⟨xs'⟩ := f1
      simp only [f1', newRow, Sem.run_bind, run_newObj, Result.andThen_ok, Sem.run_pure]
  have hlen : cs.length = len * esz := by rw [f5]; simp [hzl]
  split at he
  · simp only [Option.some.injEq, Prod.mk.injEq] at he
    obtain ⟨rfl, rfl⟩ := he
    exact ⟨_, _, run, makes_own s (xs := ⟨xs'⟩) ag e dst _ _ f2 f3 he1 f4 (fun w' G' e => .osl rfl (Nat.le_refl _) (Nat.le_refl _) (fun _ => ⟨_, loc_new s e, rfl⟩)) rfl⟩
  · split at he
    · rename_i hcl
      simp only [Option.some.injEq, Prod.mk.injEq] at he
      obtain ⟨rfl, rfl⟩ := he
      cases dst with
      | none => simp at hd
      | some d =>
        obtain ⟨c1, c2, c3⟩ := chunks_spec ag esz he1.1 he1.2 len cs (by omega) f3
        have hfl : (chunks ag esz len cs).flatMap AV.cells = cs := by rw [c2, List.take_of_length_le (by omega)]
        have hvc : VCs w G cs xs' := f2.closed hcl
        have s' := s.newTip (vs := chunks ag esz len cs) (sp := []) e (0, 0) len d he1.1 c3 (by rw [hfl]; exact f3) (by rw [hfl]; exact hvc) (by rw [c1]; exact Nat.le_refl _) (by simp [← f2.length, hlen]) (by intro o _ _; simp)
        simp only [List.append_nil, c1] at s'
        exact ⟨_, _, run, G.newTip w.heap.size (len * esz), ext_newTip _ _ _ _, below_push _ _ s.room, s'⟩
    · cases he

/-- A literal without elements. -/
theorem op_buildZ (s : SR Gl base F w G a.tmps sl h) {t e : TypeId} {i : TypeInfo} {esz : Nat} {v : AV} {h' : Store} (dst : Option Nat) (ht : P.underlying t = some (.slice e)) (hi : P.info? e = some i)
    (he : evOp C b0 (.buildZ esz) sl h = some (v, h')) : Makes P Gl base F w G a dst (setOpt sl dst v) h' (Instr.buildSlice t 0 ((#[] : Array (Nat × Operand)).map fun (i, x) => (i, a.eval x))) := by
  show Makes P Gl base F w G a dst (setOpt sl dst v) h' (Instr.buildSlice t 0 (Array.map _ #[]))
  rw [Array.map_empty]
  simp only [evOp, Option.some.injEq, Prod.mk.injEq] at he
  obtain ⟨rfl, rfl⟩ := he
  have run : (Instr.buildSlice t 0 #[]).run P w = .ok (.slice (some ⟨w.heap.size, 0, none⟩) 0 0) { w with heap := w.heap.push (.cells ⟨[]⟩ e) } := by
    simp only [Instr.buildSlice, Sem.run_bind, run_underlying P ht, Result.andThen_ok, run_sizeOf P hi]
    rw [if_neg (by omega)]
    simp only [Nat.zero_mul, if_true, Sem.run_bind, Sem.run_pure, Result.andThen_ok]
    have : (Array.map (fun x => (#[] : Array Value)[x % (#[] : Array Value).size]!) (Array.range 0)) = ⟨[]⟩ := by simp
    rw [this]
    simp only [Instr.fill, newRow, Sem.run_bind, run_newObj, Result.andThen_ok, Sem.run_pure]
  have s' := s.pushTip ⟨[]⟩ e (0, 0) 0
  exact ⟨_, _, run, G.newTip w.heap.size 0, ext_newTip _ _ _ _, below_push _ _ s.room, s'.putO dst (.c (.z _ _ _ _)) rfl⟩

end Go.Proofs.YteaopgkajbfkeaaGreatDoor
namespace Go.Proofs.YteaopgkajbfkeaaGreatDoor
open Go Go.RowKit

variable {Gl : Nat → Option (List AV)} {base : Nat} {F : Fr} {w : World} {G : Gh} {sl : List AV} {h : Store} {a : Act} {P : Program} {C : Env} {b0 : Nat}

section runs
variable {ts : Array TypeId} {t u e ty : TypeId} {i : TypeInfo} {z : Value} {du : TypeDesc}

theorem run_append_fits' (ht : P.underlying t = some (.slice e)) (hi : P.info? e = some i) (h0 : ts[0]? = some t) (h1 : ts[1]? = some u) (hu : P.underlying u = some du) (hd : ∀ k, du ≠ .int k)
    {bs : Option Addr} {sLen sCap n : Nat} {x : Value} {ns : List Value} (hl : (Builtin.lenOf x).run P w = .ok n w) (hf : (Builtin.firstCells i.size n x).run P w = .ok ⟨ns⟩ w) (hr : sLen + n ≤ sCap) :
    (Builtin.append_ ts ty #[.slice bs sLen sCap, x]).run P w = ((match bs with | some a => storeCells (a.add (sLen * i.size)) ns | none => pure () : Sem Unit).run P w).andThen fun _ w' => .ok (.slice bs (sLen + n) sCap) w' := by
  cases bs with
  | none => simp [Builtin.append_, h0, h1, run_underlying P ht, run_underlying P hu, run_sizeOf P hi, hl, hr, hf]
  | some b => simp [Builtin.append_, h0, h1, run_underlying P ht, run_underlying P hu, run_sizeOf P hi, hl, hr, hf]

theorem run_append_grows' (ht : P.underlying t = some (.slice e)) (hi : P.info? e = some i) (hz : i.zero = some z) (h0 : ts[0]? = some t) (h1 : ts[1]? = some u) (hu : P.underlying u = some du) (hd : ∀ k, du ≠ .int k)
    {bs : Option Addr} {sLen sCap n : Nat} {x : Value} {os ns : List Value} (hl : (Builtin.lenOf x).run P w = .ok n w) (ho : (Builtin.firstCells i.size sLen (.slice bs sLen sCap)).run P w.drew = .ok ⟨os⟩ w.drew)
    (hf : (Builtin.firstCells i.size n x).run P w.drew = .ok ⟨ns⟩ w.drew) (hr : sCap < sLen + n) (hby : i.bytes ≤ 4096) (hlim : sLen + n ≤ LIM) :
    (Builtin.append_ ts ty #[.slice bs sLen sCap, x]).run P w =
      .ok (.slice (some ⟨w.heap.size, 0, none⟩) (sLen + n) (grownCap w (sLen + n) sCap e)) (w.drew.alloc (.cells (⟨os⟩ ++ ⟨ns⟩ ++ Builtin.zeroCells z.cells (grownCap w (sLen + n) sCap e - (sLen + n))) e)) := by
  have hLIM : LIM = 17179869184 := rfl
  have hn : ¬ (sLen + n ≤ sCap) := by omega
  have h63' : ¬ (9223372036854775807 < ((sLen : Int) + (n : Int))) := by omega
  have h48' : ¬ (281474976710656 < Builtin.nextslicecap (sLen + n) sCap * i.bytes) := by
    have h2 : Builtin.nextslicecap (sLen + n) sCap * i.bytes ≤ 2 * (sLen + n) * 4096 := Nat.mul_le_mul (nextslicecap_le hr) hby
    omega
  simp [Builtin.append_, h0, h1, run_underlying P ht, run_underlying P hu, run_sizeOf P hi, hl, hn, h63', h48', run_typeInfo P hi, ho, hf, newRow, run_zeroValue hi hz, Question.forced, grownCap]
  simp only [World.alloc]
  congr 3
  apply Array.ext'
  simp

end runs

/-- What an append's second operand is in the model: so many elements, these cells. -/
theorem news_ok (s : SR Gl base F w G a.tmps sl h) {v : AV} {x : Value} {ws : List AV} {esz : Nat} (hv : VR w G v x) (hn : news h esz v = some ws) (hc : ws.all AV.closed = true) :
    ∃ ns : List Value, VCs w G (ws.flatMap AV.cells) ns ∧ (ws.flatMap AV.cells).all AV.one = true ∧ (∀ u ∈ ws, u.cells.length = esz) ∧ (∀ w', (Builtin.lenOf x).run P w' = .ok ws.length w') ∧
      (∀ w', w'.heap = w.heap → (Builtin.firstCells esz ws.length x).run P w' = .ok ⟨ns⟩ w') := by
  have sl : ∀ {ad : Option Addr} {cap : Nat} {xs : List Value}, ElemsR w G esz ws ad xs → x = .slice ad ws.length cap → ∃ ns : List Value, VCs w G (ws.flatMap AV.cells) ns ∧ (ws.flatMap AV.cells).all AV.one = true ∧ (∀ u ∈ ws, u.cells.length = esz) ∧
      (∀ w', (Builtin.lenOf x).run P w' = .ok ws.length w') ∧ (∀ w', w'.heap = w.heap → (Builtin.firstCells esz ws.length x).run P w' = .ok ⟨ns⟩ w') := by
    intro ad cap xs E e
    subst e
    have hx : xs.length = ws.length * esz := by rw [← E.vals.length, flatMap_length E.esz]
    refine ⟨xs, E.vals.closed (closed_flat hc), E.one, E.esz, fun w' => rfl, fun w' hw => ?_⟩
    cases ad with
    | none =>
      have := E.none rfl
      subst this
      simp at hx
      subst hx
      exact run_firstCells_none w' _ _ _ _
    | some k =>
      obtain ⟨hs, hr⟩ := E.some k rfl
      refine run_firstCells_some w' esz ws.length k ws.length cap xs hx (fun j y hy => ?_)
      replace hs := hs.resolve_right (fun h => by rw [h] at hx; simp at hx; rw [hx] at hy; simp at hy)
      obtain ⟨kb, ko, ks⟩ := k
      simp only at hs
      subst hs
      rw [add_none]
      have := hr j y hy
      simp only [World.cell?, hw] at this ⊢
      exact this
  have gen : (if eszIs h esz v then elems h v else none) = some ws → ∃ ns : List Value, VCs w G (ws.flatMap AV.cells) ns ∧ (ws.flatMap AV.cells).all AV.one = true ∧ (∀ u ∈ ws, u.cells.length = esz) ∧
      (∀ w', (Builtin.lenOf x).run P w' = .ok ws.length w') ∧ (∀ w', w'.heap = w.heap → (Builtin.firstCells esz ws.length x).run P w' = .ok ⟨ns⟩ w') := by
    intro hn
    split at hn
    · rename_i hz
      obtain ⟨ad, cap, xs, e, E⟩ := elems_ok s hv hn hz
      exact sl E e
    · cases hn
  cases v <;> simp only [news] at hn <;> first
    | exact gen hn
    | skip
  rename_i l
  split at hn
  · rename_i h1
    subst h1
    simp only [Option.some.injEq] at hn
    subst hn
    have := hv.str
    subst this
    refine ⟨l.map fun (b : UInt8) => Value.int .u8 (b.toNat : Int), ?_, by rw [flat_bytes]; simp [AV.one], by intro u hu; obtain ⟨b, _, rfl⟩ := List.mem_map.1 hu; rfl, fun w' => ?_, fun w' _ => ?_⟩
    · rw [flat_bytes]
      clear gen sl hc hv
      induction l with
      | nil => exact .nil
      | cons b l ih => exact .cons (.int _ _) ih
    · simp [Builtin.lenOf, ba_size]
    · simp only [Builtin.firstCells, Sem.run_pure, List.length_map]
      rw [ba_extract]
      simp
  · cases hn

def appB (P : Program) (ts : Array TypeId) (esz : Nat) : Bool :=
  match ts[0]?, ts[1]? with
  | some t, some u =>
    match P.underlying t, P.underlying u with
    | some (.slice e), some d =>
      (match d with | .int _ => false | _ => true) && decide (0 < esz) && (match P.info? e with | some i => (match i.zero with | some z => z.cells.size == esz && i.size == esz && decide (i.bytes ≤ 4096) | none => false) | none => false)
    | _, _ => false
  | _, _ => false

theorem appB_ok {ts : Array TypeId} {esz : Nat} (hb : appB P ts esz = true) : ∃ t u e d i z, ts[0]? = some t ∧ ts[1]? = some u ∧ P.underlying t = some (.slice e) ∧ P.underlying u = some d ∧ (∀ k, d ≠ .int k) ∧ P.info? e = some i ∧ i.zero = some z ∧
    z.cells.size = esz ∧ i.size = esz ∧ i.bytes ≤ 4096 ∧ 0 < esz := by
  unfold appB at hb
  split at hb
  · rename_i t u h0 h1
    split at hb
    · rename_i e d ht hu
      simp only [Bool.and_eq_true, decide_eq_true_eq] at hb
      obtain ⟨⟨b1, b2⟩, b3⟩ := hb
      split at b3
      · rename_i i hi
        split at b3
        · rename_i z hz
          simp only [Bool.and_eq_true, beq_iff_eq, decide_eq_true_eq] at b3
          refine ⟨t, u, e, d, i, z, h0, h1, ht, hu, ?_, hi, hz, b3.1.1, b3.1.2, b3.2, b2⟩
          intro k hk
          subst hk
          simp at b1
        · cases b3
      · cases b3
    · cases hb
  · cases hb

/-- The slot whose spare places an append takes. -/
def srcUntip (p : POpd) (sl : List AV) : List AV := match p with | .s n => sl.set n (sl.getD n .any).untip | _ => sl

theorem op_app (s : SR Gl base F w G a.tmps sl h) {ts : Array TypeId} {ty : TypeId} {esz : Nat} {x y : Operand} {p q : POpd} {v : AV} {h' : Store} (d : Nat) (hb : appB P ts esz = true) (hp : opdB x p = true) (hq : opdB y q = true)
    (he : evOp C b0 (.app esz p q) sl h = some (v, h')) : Makes P Gl base F w G a (some d) ((srcUntip p sl).set d v) h' (Builtin.append_ ts ty #[a.eval x, a.eval y]) := by
  obtain ⟨t, u, e, du, i, z, h0, h1, ht, hu, hd, hi, hz, hzs, hsz, hby, hpos⟩ := appB_ok hb
  have hx := opdB_ok s hp
  have hy := opdB_ok s hq
  have hLIM : LIM = 17179869184 := rfl
  simp only [evOp] at he
  cases hn : news h esz (POpd.get sl q) with
  | none => rw [hn] at he; cases he
  | some ws =>
    rw [hn] at he
    simp only at he
    split at he
    · rename_i hc
      obtain ⟨ns, n1, n2, n3, n4, n5⟩ := news_ok (P := P) s hy hn hc
      have hnl : ns.length = ws.length * esz := by rw [← n1.length, flatMap_length n3]
      have s0 : SR Gl base F w G a.tmps (srcUntip p sl) h := by
        unfold srcUntip
        cases p <;> first | exact s | exact s.untip _
      -- a new row
      have grow : ∀ {vs : List AV} {bs : Option Addr} {cap : Nat} {os : List Value}, a.eval x = .slice bs vs.length cap → VCs w G (vs.flatMap AV.cells) os → (vs.flatMap AV.cells).all AV.one = true → (∀ u ∈ vs, u.cells.length = esz) →
          (∀ w', w'.heap = w.heap → (Builtin.firstCells esz vs.length (.slice bs vs.length cap)).run P w' = .ok ⟨os⟩ w') → cap < vs.length + ws.length → vs.length + ws.length ≤ LIM →
          Makes P Gl base F w G a (some d) ((srcUntip p sl).set d (.gsl esz (vs ++ ws))) h (Builtin.append_ ts ty #[a.eval x, a.eval y]) := by
        intro vs bs cap os e1 o1 o2 o3 o4 hcap hlim
        have run := run_append_grows' (P := P) (w := w) (ty := ty) ht hi hz h0 h1 hu hd (bs := bs) (sLen := vs.length) (sCap := cap) (n4 w) (by rw [hsz]; exact o4 _ rfl) (by rw [hsz]; exact n5 _ rfl) hcap hby hlim
        rw [← e1] at run
        generalize hg : grownCap w (vs.length + ws.length) cap e = nc at run
        have hnc : vs.length + ws.length ≤ nc := by rw [← hg]; simp only [grownCap, Question.cut]; omega
        have hol : os.length = vs.length * esz := by rw [← o1.length, flatMap_length o3]
        have hrow : ((⟨os⟩ : Array Value) ++ ⟨ns⟩ ++ Builtin.zeroCells z.cells (nc - (vs.length + ws.length))) = ⟨(os ++ ns) ++ (Builtin.zeroCells z.cells (nc - (vs.length + ws.length))).toList⟩ := by
          apply Array.ext'; simp
        rw [hrow] at run
        have s' := s0.drew.newTip (vs := vs ++ ws) (esz := esz) (xs := os ++ ns) (sp := (Builtin.zeroCells z.cells (nc - (vs.length + ws.length))).toList) e (0, 0) nc d hpos
          (by intro u hu; rcases List.mem_append.1 hu with hu | hu; exact o3 u hu; exact n3 u hu) (by rw [List.flatMap_append, List.all_append, o2, n2]; rfl)
          (by rw [List.flatMap_append]; exact (o1.append n1).ext (drew_ext w G).cell) (by simpa using hnc)
          (by
            simp only [List.length_append, hol, hnl, Array.length_toList, Builtin.zeroCells, Array.size_map, Array.size_range, hzs]
            rw [← Nat.add_mul, ← Nat.add_mul]
            exact Nat.mul_le_mul_right _ (by omega))
          (by intro o _ _; simp)
        simp only [List.length_append] at s'
        exact ⟨_, _, run, G.newTip w.heap.size ((vs.length + ws.length) * esz), (drew_ext w G).trans (ext_newTip _ _ _ _), (below_drew base w).trans (below_push _ _ s.room), s'⟩
      cases hp0 : POpd.get sl p <;> rw [hp0] at he hx <;> simp only [reduceCtorEq] at he
      case nils =>
        have e1 := hx.nils
        split at he
        · rename_i hlim
          split at he
          · rename_i h00
            subst h00
            simp only [Option.some.injEq, Prod.mk.injEq] at he
            obtain ⟨rfl, rfl⟩ := he
            have run := run_append_fits' (P := P) (w := w) (ty := ty) ht hi h0 h1 hu hd (bs := none) (sLen := 0) (sCap := 0) (n4 w) (by rw [hsz]; exact n5 _ rfl) (by simp)
            rw [← e1] at run
            exact ⟨_, _, run, G, Ext.refl _ _, Below.refl _ _, s0.put d (.c .nils) rfl⟩
          · rename_i hne
            simp only [Option.some.injEq, Prod.mk.injEq] at he
            obtain ⟨rfl, rfl⟩ := he
            have hpw : 0 < ws.length := by cases ws with | nil => exact absurd rfl hne | cons _ _ => simp
            have := grow (vs := []) (bs := none) (cap := 0) (os := []) (by simpa using e1) .nil rfl (by simp) (fun w' _ => run_firstCells_none w' _ _ _ _) (by simpa using hpw) (by simpa using hlim)
            simpa using this
        · cases he
      case gsl e' vs =>
        split at he
        · rename_i hcond
          obtain ⟨rfl, hlim⟩ := hcond
          simp only [Option.some.injEq, Prod.mk.injEq] at he
          obtain ⟨rfl, rfl⟩ := he
          -- the operand lies in a slot
          cases p with
          | k c => cases c <;> simp [POpd.get, KV.av] at hp0
          | f g => simp [POpd.get] at hp0
          | gv g => simp [POpd.get] at hp0
          | s n =>
            have hps : sl[n]? = some (.gsl e' vs) := by
              simp only [POpd.get, List.getD_eq_getElem?_getD] at hp0
              cases hq : sl[n]? with
              | none => rw [hq] at hp0; cases hp0
              | some v => rw [hq] at hp0; simpa using hp0
            obtain ⟨xv, hxv, hxr⟩ := s.vals.get hps
            rw [Array.getElem?_toList] at hxv
            have hxe : a.tmps[n]? = some (a.eval x) := by
              cases x with
              | tmp t =>
                simp only [opdB, beq_iff_eq] at hp
                subst hp
                simp [Act.eval, hxv]
              | const v => simp [opdB] at hp
              | global g => simp [opdB] at hp
              | func f => simp [opdB] at hp
            obtain ⟨os, k, o, sp, cap, ev, _, hcap, o3, o2, hr, o1, hs⟩ := hx.gslc.sls
            have hol : os.length = vs.length * e' := by rw [← o1.length, flatMap_length o3]
            have hun : srcUntip (.s n) sl = sl.set n (.sl e' vs) := by
              simp only [srcUntip, List.getD_eq_getElem?_getD, hps, Option.getD_some, AV.untip]
            rcases Nat.lt_or_ge cap (vs.length + ws.length) with hg | hg
            · refine grow ev o1 o2 o3 (fun w' hw => run_firstCells_some w' e' vs.length _ _ _ os hol (fun j v hv => ?_)) hg hlim
              obtain rfl : sp = none := hs.resolve_right (fun h => by
                have h0 : vs.length = 0 := by omega
                rw [h0, Nat.zero_mul] at hol
                rw [List.length_eq_zero_iff.1 hol] at hv; simp at hv)
              rw [add_none]
              have := (hr j v hv).1
              simp only [World.cell?, hw] at this ⊢
              exact this
            · have run := run_append_fits' (P := P) (w := w) (ty := ty) ht hi h0 h1 hu hd (bs := some ⟨k, o, sp⟩) (sLen := vs.length) (sCap := cap) (n4 w) (by rw [hsz]; exact n5 _ rfl) hg
              rw [← ev] at run
              rcases Nat.eq_zero_or_pos ws.length with hw0 | hwp
              · have hw00 : ws = [] := List.length_eq_zero_iff.1 hw0
                subst hw00
                have : ns = [] := List.length_eq_zero_iff.1 (by simpa using hnl)
                subst this
                simp only [storeCells, Sem.run_pure, Result.andThen_ok] at run
                have st := s.take n d
                have hgd : a.tmps.getD n undef = a.eval x := by simp [hxe]
                have hgs : sl.getD n .any = .gsl e' vs := by rw [List.getD_eq_getElem?_getD, hps]; rfl
                rw [hgd, hgs] at st
                refine ⟨_, _, run, G, Ext.refl _ _, Below.refl _ _, ?_⟩
                rw [hun]
                simp only [List.length_nil, Nat.add_zero, List.append_nil]
                rw [← ev]
                exact st
              · obtain rfl : sp = none := hs.resolve_right (by omega)
                rw [ev] at hxe
                have htip : tipOf (.gsl e' vs) (.slice (some ⟨k, o, none⟩) vs.length cap) = some (k, o + vs.length * e', o + cap * e') := by
                  simp only [tipOf]; rw [if_pos (by omega)]
                obtain ⟨_, _, ⟨ys⟩, el, fz, hrow, _, _⟩ := s.tips _ _ (.slot hps hxe htip)
                obtain ⟨G', E, hk, s', hfit, hfz⟩ := s.appendTip (d := d) (ws := ws) hps hxe hwp hg hrow n3 n2 n1
                have st := run_storeRow P k (o + vs.length * e') el fz ns 0 ys w hrow (by simpa using hfit) (n1.toVRs.oneCells n2) (by simpa using hfz)
                simp only [add_none, hsz, Nat.add_zero] at st run
                rw [st] at run
                exact ⟨_, _, run, G', E, below_rowPut w _ _ _ hk, by rw [hun]; exact s'⟩
        · cases he
    · cases he

/-- An append that makes a new row, which is the evaluation's own. -/
theorem op_appo (s : SR Gl base F w G a.tmps sl h) {ts : Array TypeId} {ty : TypeId} {esz : Nat} {ag : Bool} {x y : Operand} {p q : POpd} {v : AV} {h' : Store} (dst : Option Nat) (hb : appB P ts esz = true) (hag : ag = false → esz = 1) (hp : opdB x p = true) (hq : opdB y q = true)
    (he : evOp C b0 (.appo esz ag p q) sl h = some (v, h')) : Makes P Gl base F w G a dst (setOpt sl dst v) h' (Builtin.append_ ts ty #[a.eval x, a.eval y]) := by
  obtain ⟨t, u, e, du, i, z, h0, h1, ht, hu, hd, hi, hz, hzs, hsz, hby, hpos⟩ := appB_ok hb
  have hx := opdB_ok s hp
  have hy := opdB_ok s hq
  simp only [evOp] at he
  cases hn : news h esz (POpd.get sl q) with
  | none => rw [hn] at he; cases he
  | some ws =>
    rw [hn] at he
    simp only at he
    split at he
    · rename_i hc
      obtain ⟨hc, hlim⟩ := hc
      obtain ⟨ns, n1, n2, n3, n4, n5⟩ := news_ok (P := P) s hy hn hc
      have hnl : ns.length = ws.length * esz := by rw [← n1.length, flatMap_length n3]
      have grow : ∀ {bs : Option Addr}, a.eval x = .slice bs 0 0 → (∀ w', (Builtin.firstCells esz 0 (.slice bs 0 0)).run P w' = .ok ⟨[]⟩ w') → ws ≠ [] →
          Makes P Gl base F w G a dst (setOpt sl dst (.osl h.length 0 ws.length ws.length)) (h ++ [⟨ws.flatMap AV.cells, esz, ag, false⟩]) (Builtin.append_ ts ty #[a.eval x, a.eval y]) := by
        intro bs e1 o4 hne
        have hcap : 0 < 0 + ws.length := by cases ws with | nil => exact absurd rfl hne | cons _ _ => simp
        have run := run_append_grows' (P := P) (w := w) (ty := ty) (os := []) ht hi hz h0 h1 hu hd (bs := bs) (sLen := 0) (sCap := 0) (n4 w) (by rw [hsz]; exact o4 _) (by rw [hsz]; exact n5 _ rfl) hcap hby (by simpa using hlim)
        rw [← e1] at run
        generalize hg : grownCap w (0 + ws.length) 0 e = nc at run
        have hnc : 0 + ws.length ≤ nc := by rw [← hg]; simp only [grownCap, Question.cut]; omega
        have hrow : ((⟨[]⟩ : Array Value) ++ ⟨ns⟩ ++ Builtin.zeroCells z.cells (nc - (0 + ws.length))) = ⟨ns ++ (Builtin.zeroCells z.cells (nc - (0 + ws.length))).toList⟩ := by
          apply Array.ext'; simp
        rw [hrow] at run
        have hcl := closed_flat hc
        have s' := s.drew.newOwnSp ag e (Builtin.zeroCells z.cells (nc - ws.length)).toList (n1.toVRs.ext (drew_ext w G)) n2 ⟨hpos, hag⟩ (fun v hv => closed_untip (List.all_eq_true.1 hcl v hv))
        rw [Nat.zero_add] at run
        refine ⟨_, _, run, G.newOwn w.heap.size h.length, (drew_ext w G).trans (ext_newOwn _ _ _ _ (s.mem.free (Nat.le_refl _))), (below_drew base w).trans (below_push _ _ s.room), s'.putO dst ?_ rfl⟩
        exact .osl rfl (Nat.le_refl _) (by simpa using hnc) (fun _ => ⟨w.heap.size, by simp only [Gh.newOwn, if_pos]; rfl, rfl⟩)
      have none0 : ∀ {bs : Option Addr}, a.eval x = .slice bs 0 0 → ws = [] → (Builtin.append_ ts ty #[a.eval x, a.eval y]).run P w = .ok (.slice bs 0 0) w := by
        intro bs e1 h00
        subst h00
        have : ns = [] := List.length_eq_zero_iff.1 (by simpa using hnl)
        subst this
        have run := run_append_fits' (P := P) (w := w) (ty := ty) ht hi h0 h1 hu hd (bs := bs) (sLen := 0) (sCap := 0) (n4 w) (by rw [hsz]; exact n5 _ rfl) (by simp)
        rw [← e1] at run
        rw [run]
        cases bs <;> simp [storeCells]
      cases hp0 : POpd.get sl p <;> rw [hp0] at he hx <;> simp only [reduceCtorEq] at he
      case nils =>
        have e1 := hx.nils
        split at he
        · rename_i h00
          cases he
          exact ⟨_, _, none0 e1 h00, G, Ext.refl _ _, Below.refl _ _, s.putO dst (.c .nils) rfl⟩
        · rename_i hne
          cases he
          exact grow e1 (fun w' => run_firstCells_none w' _ _ _ _) hne
      case z ee =>
        have hx' : VC w G (.z ee) (a.eval x) := by cases hx with | c h => exact h
        obtain ⟨k, o, sp, e1⟩ : ∃ k o sp, a.eval x = .slice (some ⟨k, o, sp⟩) 0 0 := by
          generalize a.eval x = xv at hx'
          cases hx' with | z e k o sp => exact ⟨k, o, sp, rfl⟩
        split at he
        · rename_i hee
          subst hee
          split at he
          · rename_i h00
            cases he
            have := VC.sl (w := w) (G := G) (esz := ee) (vs := []) (xs := []) (k := k) (o := o) (cap := 0) (sp := sp) hpos (by simp) (by simp) rfl (by intro j x hx; simp at hx) .nil (.inr rfl)
            exact ⟨_, _, none0 e1 h00, G, Ext.refl _ _, Below.refl _ _, s.putO dst (.c this) rfl⟩
          · rename_i hne
            cases he
            exact grow e1 (fun w' => run_firstCells_some w' ee 0 _ _ _ [] (by simp) (fun j y hy => by simp at hy)) hne
        · cases he
    · cases he

/-- One cell of a block is described another way. -/
theorem WR.recell {base : Nat} {F : Fr} {w : World} {G : Gh} {h : Store} (m : WR F base w G h) {b : Nat} {blk : Blk} {cells : List AV} (hb : h[b]? = some blk) (ho : cells.all AV.one = true) (hv : ∀ xs, VRs w G blk.cells xs → VRs w G cells xs) :
    WR F base w G (h.set b { blk with cells := cells }) := by
  have hlt := (List.getElem?_eq_some_iff.1 hb).1
  refine ⟨fun b' r hr => by simpa using m.lt b' r hr, fun b' blk' r hb' hr => ?_, fun b' blk' hb' hz => ?_, m.own, m.old, m.new, m.low⟩
  · by_cases hbb : b = b'
    · subst hbb
      rw [List.getElem?_set_self hlt] at hb'
      cases hb'
      obtain ⟨xs, B⟩ := m.blk b blk r hb hr
      exact ⟨xs, B.loc, B.row, hv xs B.vals, ho, B.esz, B.role⟩
    · rw [List.getElem?_set_ne hbb] at hb'
      exact m.blk b' blk' r hb' hr |>.imp fun xs B => ⟨B.loc, B.row, B.vals, B.one, B.esz, B.role⟩
  · by_cases hbb : b = b'
    · subst hbb
      rw [List.getElem?_set_self hlt] at hb'
      cases hb'
      exact m.has b blk hb hz
    · rw [List.getElem?_set_ne hbb] at hb'
      exact m.has b' blk' hb' hz

/-- Spare places go from one place to another. -/
theorem SR.pass {tmps tmps' : Array Value} {sl' : List AV} {h' : Store} (s : SR Gl base F w G tmps sl h) (hs : sl'.length = tmps'.size) (hv : VRs w G sl' tmps'.toList) (hm : WR F base w G h') (lo ln : Loc)
    (hsub : ∀ l t, TipAt F w G tmps' sl' h' l t → (TipAt F w G tmps sl h l t ∧ l ≠ lo) ∨ (l = ln ∧ TipAt F w G tmps sl h lo t)) : SR Gl base F w G tmps' sl' h' := by
  refine ⟨hs, hv, hm, fun l t a => ?_, fun l l' t t' a a' e => ?_, s.glob, s.room⟩
  · rcases hsub l t a with ⟨a, _⟩ | ⟨_, a⟩ <;> exact s.tips _ _ a
  · rcases hsub l t a with ⟨a, n⟩ | ⟨rfl, a⟩ <;> rcases hsub l' t' a' with ⟨a', n'⟩ | ⟨rfl, a'⟩
    · exact s.inj _ _ _ _ a a' e
    · exact absurd (s.inj _ _ _ _ a a' e) n
    · exact absurd (s.inj _ _ _ _ a a' e).symm n'
    · rfl

theorem VRs.setSame {vs : List AV} {xs : List Value} (h : VRs w G vs xs) {o : Nat} {v : AV} {x : Value} (hx : xs[o]? = some x) (hv : VR w G v x) : VRs w G (vs.set o v) xs := by
  have := h.set hv o
  have e : xs.set o x = xs := by
    apply List.ext_getElem?
    intro j
    by_cases hj : o = j
    · subst hj
      rw [List.getElem?_set_self (List.getElem?_eq_some_iff.1 hx).1, hx]
    · rw [List.getElem?_set_ne hj]
  rwa [e] at this

theorem op_loadT (s : SR Gl base F w G a.tmps sl h) {t : TypeId} {x : Operand} {p : POpd} {v : AV} {h' : Store} (dst : Option Nat) (hd : dst.isSome) (ht : tyIs P t false 1 = true) (hp : opdB x p = true)
    (he : evOp C b0 (.loadT p) sl h = some (v, h')) : Makes P Gl base F w G a dst (setOpt sl dst v) h' (Instr.loadAt t (a.eval x)) := by
  have hx := opdB_ok s hp
  simp only [evOp] at he
  generalize POpd.get sl p = u at hx he
  cases u <;> simp only [reduceCtorEq] at he
  rename_i b off
  split at he
  · rename_i blk hb
    split at he
    · rename_i u0 hu
      cases he
      obtain ⟨r, e, hr⟩ := hx.refs
      have hb0 := (getB_some hb).1
      obtain ⟨ys, B⟩ := s.mem.blk b blk r hb0 hr
      obtain ⟨el, sp, hrow⟩ := B.row
      obtain ⟨x0, hx0, hv0⟩ := B.vals.get hu
      have L := run_loadPart P (w := w) ht (k := r) (o := 0) (off := off) (xs := ys) (fun j x hx => by rw [Nat.zero_add, cell_row hrow]; exact get_left hx)
      simp only [Nat.zero_add] at L
      have hcell : w.cell? ⟨r, off, none⟩ = some x0 := by rw [cell_row hrow]; exact get_left hx0
      obtain ⟨d, rfl⟩ := Option.isSome_iff_exists.1 hd
      refine ⟨x0, w, by rw [e]; simp only [Instr.loadAt, Instr.sureAddr, Sem.run_bind, Sem.run_pure, Result.andThen_ok]; exact L.2 trivial x0 hx0, G, Ext.refl _ _, Below.refl _ _, ?_⟩
      have hlt := (List.getElem?_eq_some_iff.1 hb0).1
      have hlo := (List.getElem?_eq_some_iff.1 hu).1
      refine s.pass (by simp [Act.put, setOpt, s.size]) (by simpa [Act.put, setOpt] using s.vals.set hv0 d) (s.mem.recell hb0 ?_ ?_) (.cell b off) (.slot d) ?_
      · have h1 := B.one
        simp only [List.all_eq_true] at *
        intro z hz
        rcases List.mem_or_eq_of_mem_set hz with hz | rfl
        · exact h1 z hz
        · rw [one_untip]; exact h1 v (List.mem_of_getElem? hu)
      · intro xs hxs
        obtain ⟨x1, hx1, hv1⟩ := hxs.get hu
        exact hxs.setSame hx1 hv1.untip
      · intro l t' a'
        cases a' with
        | fr ht => exact .inl ⟨.fr ht, by simp⟩
        | @slot i v' x' t hv' hx' ht =>
          simp only [setOpt, Act.put] at hv' hx'
          by_cases hdi : d = i
          · subst hdi
            have h1 : d < sl.length := by
              rcases Nat.lt_or_ge d sl.length with h1 | h1
              · exact h1
              · rw [List.getElem?_eq_none (by simpa using h1)] at hv'; cases hv'
            rw [List.getElem?_set_self h1] at hv'
            rw [Array.getElem?_setIfInBounds_self_of_lt (s.size ▸ h1)] at hx'
            cases hv'; cases hx'
            exact .inr ⟨rfl, .cell hb0 hu hr hcell ht⟩
          · rw [List.getElem?_set_ne hdi] at hv'
            rw [Array.getElem?_setIfInBounds_ne hdi] at hx'
            exact .inl ⟨.slot hv' hx' ht, by simp⟩
        | @cell b' o' r' blk' v' x' t hb' hv' hr' hx' ht =>
          by_cases hbb : b = b'
          · subst hbb
            rw [List.getElem?_set_self hlt] at hb'
            cases hb'
            by_cases ho : off = o'
            · subst ho
              simp only at hv'
              rw [List.getElem?_set_self hlo] at hv'
              cases hv'
              rw [tipOf_untip] at ht; cases ht
            · simp only at hv'
              rw [List.getElem?_set_ne ho] at hv'
              exact .inl ⟨.cell hb0 hv' hr' hx' ht, by simp; omega⟩
          · rw [List.getElem?_set_ne hbb] at hb'
            exact .inl ⟨.cell hb' hv' hr' hx' ht, by simp; omega⟩
    · cases he
  · cases he

theorem splice_one {cs : List AV} {o : Nat} {u : AV} (h : o < cs.length) : splice cs o [u] = cs.set o u := by
  unfold splice
  rw [List.set_eq_take_append_cons_drop, if_pos h]
  simp

theorem VR.oneV {v : AV} {x : Value} (h : VR w G v x) (ho : v.one = true) : x.cells.toList = [x] := by
  cases h with
  | c h => cases h <;> first | rfl | (simp [AV.one] at ho)
  | gsl h => cases h; rfl
  | osl => rfl
  | ref => rfl
  | agg => cases ho
  | tup => cases ho
  | fn => rfl

theorem VR.retip {v : AV} {x : Value} (h : VR w G v.untip x) : VR w G v x := by
  cases v <;> first | exact h | skip
  exact .gsl h.slc

theorem op_storeT (s : SR Gl base F w G a.tmps sl h) {t : TypeId} {x : Operand} {p : POpd} {n : Nat} {v : AV} {h' : Store} (dst : Option Nat) (ht : ∃ i, P.info? t = some i ∧ i.size = 1) (hp : opdB x p = true)
    (he : evOp C b0 (.storeT p n) sl h = some (v, h')) :
    ∃ w', (Instr.storeAt t (a.eval x) (a.eval (.tmp n))).run P w = .ok () w' ∧ ∃ G', Ext w G w' G' ∧ Below base w w' ∧ SR Gl base F w' G' a.tmps (sl.set n (sl.getD n .any).untip) h' := by
  obtain ⟨i, hi, hi1⟩ := ht
  have hx := opdB_ok s hp
  have hy : VR w G (sl.getD n .any) (a.eval (.tmp n)) := s.get n
  simp only [evOp] at he
  generalize POpd.get sl p = u at hx he
  cases u <;> simp only [reduceCtorEq] at he
  rename_i b off
  split at he
  · rename_i blk hb
    split at he
    · rename_i hc
      simp only [Option.some.injEq, Prod.mk.injEq] at he
      obtain ⟨rfl, rfl⟩ := he
      obtain ⟨c1, c2, c3, c4⟩ := hc
      generalize huv : sl.getD n .any = uv at *
      have hb0 := (getB_some hb).1
      obtain ⟨r, e, hr⟩ := hx.refs
      obtain ⟨ys, B⟩ := s.mem.blk b blk r hb0 hr
      obtain ⟨el, sp, hrow⟩ := B.row
      have hcs : uv.cellsOf = some [uv] := by cases uv <;> first | rfl | (simp [AV.one] at c3) | (simp [AV.cellsOf, AV.one])
      obtain ⟨h1, h2⟩ := hy.cellsOf hcs
      have hcl : (a.eval (.tmp n)).cells.toList = [a.eval (.tmp n)] := hy.oneV c3
      rw [hcl] at h1
      have hlen : off + 1 ≤ ys.length := by rw [← B.vals.length]; omega
      obtain ⟨E, s'⟩ := s.store (o := off) hb0 B hrow c1 (cs := [uv.untip]) (xs := [a.eval (.tmp n)]) (.cons hy.untip .nil) (by simpa [one_untip] using c3) (by simp [untip_untip]) (by simp; omega)
      have hbl : base ≤ r := (s.mem.low _ _ hr).1
      refine ⟨_, ?_, G, E, below_rowPut w _ _ _ hbl, ?_⟩
      · rw [e]
        simp only [Instr.storeAt, Instr.sureAddr, Sem.run_bind, Sem.run_pure, Result.andThen_ok, storeVar, run_sizeOf P hi]
        have hsz : (a.eval (.tmp n)).cells.size = i.size := by
          have := congrArg List.length hcl
          rw [hi1]; simpa using this
        rw [if_neg (by simpa using hsz)]
        have := run_storeRow P r off el (0, 0) (a.eval (.tmp n)).cells.toList 0 (ys ++ sp) w hrow (by rw [hcl]; simp; omega) (by rw [hcl]; exact h1.oneCells h2) (by intro j _ _; simp)
        rw [hcl] at this
        simpa [hcl] using this
      · rw [splice_one c2] at s'
        have hlt := (List.getElem?_eq_some_iff.1 hb0).1
        have hb1 : (h.set b { blk with cells := blk.cells.set off uv.untip })[b]? = some { blk with cells := blk.cells.set off uv.untip } := by rw [List.getElem?_set_self hlt]
        have hr1 : G.loc b = some r := hr
        obtain ⟨xs1, B1⟩ := s'.mem.blk b _ r hb1 hr1
        have hrr := heap_lt hrow
        have hcell : (rowPut w r (spliceV (ys ++ sp) off [a.eval (.tmp n)]) el (0, 0)).cell? ⟨r, off, none⟩ = some (a.eval (.tmp n)) := by
          rw [cell_rowPut hrr]
          have := spliceV_mid (xs := ys ++ sp) (ys := [a.eval (.tmp n)]) (o := off) (j := 0) (by simp; omega) (by simp)
          simpa using this
        have hset : (h.set b { blk with cells := blk.cells.set off uv }) = ((h.set b { blk with cells := blk.cells.set off uv.untip }).set b { ({ blk with cells := blk.cells.set off uv.untip } : Blk) with cells := (blk.cells.set off uv.untip).set off uv }) := by
          rw [List.set_set]
          simp only [List.set_set]
        rw [hset]
        have hy1 := hy.ext E
        refine s'.pass (by simp [s.size]) ?_ (s'.mem.recell hb1 ?_ ?_) (.slot n) (.cell b off) ?_
        · have hg : ∀ (vs : List AV) (xs : List Value), VRs (rowPut w r (spliceV (ys ++ sp) off [a.eval (.tmp n)]) el (0, 0)) G vs xs → ∀ k u, vs.getD k .any = u → VRs (rowPut w r (spliceV (ys ++ sp) off [a.eval (.tmp n)]) el (0, 0)) G (vs.set k u.untip) xs := by
            intro vs xs hvs k u hu
            rcases Nat.lt_or_ge k vs.length with h1 | h1
            · have hk : vs[k]? = some u := by rw [← hu]; simp [h1]
              obtain ⟨x1, hx1, hv1⟩ := hvs.get hk
              exact hvs.setSame hx1 hv1.untip
            · rw [List.set_eq_of_length_le h1]; exact hvs
          exact hg _ _ s'.vals n uv huv
        · have h1 := B.one
          simp only [List.all_eq_true] at *
          intro z hz
          rcases List.mem_or_eq_of_mem_set hz with hz | rfl
          · rcases List.mem_or_eq_of_mem_set hz with hz | rfl
            · exact h1 z hz
            · rw [one_untip]; exact c3
          · exact c3
        · intro xs hxs
          obtain ⟨x1, hx1, hv1⟩ := hxs.get (j := off) (v := uv.untip) (by rw [List.getElem?_set_self c2])
          exact hxs.setSame hx1 hv1.retip
        · intro l t' a'
          cases a' with
          | fr ht => exact .inl ⟨.fr ht, by simp⟩
          | @slot i' v' x' t hv' hx' ht =>
            by_cases hni : n = i'
            · subst hni
              have h1 : n < sl.length := by
                have := (List.getElem?_eq_some_iff.1 hv').1
                simpa using this
              rw [List.getElem?_set_self h1] at hv'
              cases hv'
              rw [tipOf_untip] at ht; cases ht
            · rw [List.getElem?_set_ne hni] at hv'
              exact .inl ⟨.slot hv' hx' ht, by simp; omega⟩
          | @cell b' o' r' blk' v' x' t hb' hv' hr' hx' ht =>
            by_cases hbb : b = b'
            · subst hbb
              rw [List.getElem?_set_self (by simpa using hlt)] at hb'
              cases hb'
              obtain rfl : r = r' := Option.some.inj (hr.symm.trans hr')
              by_cases ho : off = o'
              · subst ho
                simp only at hv'
                rw [List.getElem?_set_self (by simpa using c2)] at hv'
                cases hv'
                rw [hcell] at hx'
                cases hx'
                have h1 : n < sl.length := by
                  rcases Nat.lt_or_ge n sl.length with h1 | h1
                  · exact h1
                  · rw [show sl.getD n .any = .any by simp [List.getElem?_eq_none h1]] at huv
                    subst huv; cases c3
                refine .inr ⟨rfl, .slot (v := uv) (x := a.eval (.tmp n)) (by rw [← huv]; simp [h1]) ?_ ht⟩
                have : n < a.tmps.size := s.size ▸ h1
                simp [Act.eval, this]
              · simp only at hv'
                rw [List.getElem?_set_ne ho] at hv'
                exact .inl ⟨.cell hb1 hv' hr' hx' ht, by simp⟩
            · rw [List.getElem?_set_ne hbb] at hb'
              exact .inl ⟨.cell hb' hv' hr' hx' ht, by simp⟩
    · cases he
  · cases he

end Go.Proofs.YteaopgkajbfkeaaGreatDoor
namespace Go.Proofs.YteaopgkajbfkeaaGreatDoor
open Go Go.RowKit

variable {Gl : Nat → Option (List AV)} {base : Nat} {F : Fr} {w : World} {G : Gh} {sl : List AV} {h : Store} {a : Act} {P : Program} {C : Env} {b0 : Nat}

theorem freeze_one : ∀ (d : Nat) {v u : AV}, v.one = true → freezeN h d v = some u → u.one = true
  | 0, _, _, _, hf => by simp [freezeN] at hf
  | d + 1, v, u, ho, hf => by
    cases v <;> simp only [freezeN, Option.some.injEq, reduceCtorEq] at hf <;> try (subst hf; exact ho)
    case agg => cases ho
    case tup => cases ho
    case osl b off len cap =>
      cases hb : getB h b with
      | none => rw [hb] at hf; cases hf
      | some blk =>
        rw [hb] at hf
        simp only at hf
        split at hf
        · simp only [Option.map_eq_some_iff] at hf
          obtain ⟨_, _, rfl⟩ := hf
          rfl
        · cases hf
    case fn f x y =>
      simp only [Option.bind_eq_some_iff, Option.map_eq_some_iff] at hf
      obtain ⟨_, _, _, _, rfl⟩ := hf
      rfl
    case iface t v =>
      simp only [Option.map_eq_some_iff] at hf
      obtain ⟨_, _, rfl⟩ := hf
      rfl

theorem mapM_len {f : AV → Option AV} : ∀ {l l' : List AV}, l.mapM f = some l' → l'.length = l.length
  | [], l', h => by simp at h; subst h; rfl
  | x :: l, l', h => by
    rw [List.mapM_cons] at h
    simp only [bind, Option.bind_eq_some_iff, pure, Option.some.injEq] at h
    obtain ⟨y, _, l2, h2, rfl⟩ := h
    simp [mapM_len h2]

theorem mapM_all {f : AV → Option AV} {p : AV → Bool} (hp : ∀ x y, p x = true → f x = some y → p y = true) : ∀ {l l' : List AV}, l.mapM f = some l' → l.all p = true → l'.all p = true
  | [], l', h, _ => by simp at h; subst h; rfl
  | x :: l, l', h, ha => by
    rw [List.mapM_cons] at h
    simp only [bind, Option.bind_eq_some_iff, pure, Option.some.injEq] at h
    obtain ⟨y, hy, l2, h2, rfl⟩ := h
    simp only [List.all_cons, Bool.and_eq_true] at ha ⊢
    exact ⟨hp x y ha.1 hy, mapM_all hp h2 ha.2⟩

/-- What is handed over as data reads as that data, wherever its cells may be read. -/
theorem freeze_ok {tmps : Array Value} (s : SR Gl base F w G tmps sl h) {G2 : Gh} (hI : ∀ k o, G.I k o → G2.I k o) : ∀ (d : Nat) {v u : AV} {x : Value}, VR w G v x → freezeN h d v = some u → (∀ b ∈ reachN h d v, ∀ r, G.loc b = some r → ∀ o, G2.I r o) → VC w G2 u x
  | 0, _, _, _, _, hf, _ => by simp [freezeN] at hf
  | d + 1, v, u, x, hv, hf, hr => by
    have E : ∀ k o x, w.cell? ⟨k, o, none⟩ = some x → G.I k o → w.cell? ⟨k, o, none⟩ = some x ∧ G2.I k o := fun k o x hx hi => ⟨hx, hI k o hi⟩
    have L : ∀ {vs us : List AV} {xs : List Value}, VRs w G vs xs → vs.mapM (freezeN h d) = some us → (∀ b ∈ vs.flatMap (reachN h d), ∀ r, G.loc b = some r → ∀ o, G2.I r o) → VCs w G2 us xs := by
      intro vs
      induction vs with
      | nil => intro us xs hv hm _; obtain _ | _ := hv; simp at hm; subst hm; exact .nil
      | cons v vs ih =>
        intro us xs hv hm hr
        obtain _ | ⟨h1, h2⟩ := hv
        rw [List.mapM_cons] at hm
        simp only [bind, Option.bind_eq_some_iff, pure, Option.some.injEq] at hm
        obtain ⟨u, hu, us, hus, rfl⟩ := hm
        simp only [List.flatMap_cons, List.mem_append] at hr
        exact .cons (freeze_ok s hI d h1 hu (fun b hb => hr b (.inl hb))) (ih h2 hus (fun b hb => hr b (.inr hb)))
    cases v <;> simp only [freezeN, Option.some.injEq, reduceCtorEq] at hf <;> simp only [reachN] at hr <;> try (subst hf; cases hv with | c hc => exact hc.ext E)
    case agg cs =>
      obtain ⟨xs, rfl, h1, ho⟩ := hv.aggs
      simp only [Option.map_eq_some_iff] at hf
      obtain ⟨us, hus, rfl⟩ := hf
      exact .agg (L h1 hus hr) (mapM_all (fun x y hx hy => freeze_one d hx hy) hus ho)
    case tup cs =>
      obtain ⟨xs, rfl, h1⟩ := hv.tups
      simp only [Option.map_eq_some_iff] at hf
      obtain ⟨us, hus, rfl⟩ := hf
      exact .tup (L h1 hus hr)
    case gsl e vs => subst hf; exact hv.gslc.ext E
    case fn f x y =>
      obtain ⟨xs, ys, rfl, h1, h2⟩ := hv.fns
      simp only [Option.bind_eq_some_iff, Option.map_eq_some_iff] at hf
      obtain ⟨us, hus, us', hus', rfl⟩ := hf
      simp only [List.mem_append] at hr
      exact .fn f (L h1 hus (fun b hb => hr b (.inl hb))) (L h2 hus' (fun b hb => hr b (.inr hb)))
    case iface t v =>
      obtain ⟨y, rfl, h1⟩ := hv.ifaces
      simp only [Option.map_eq_some_iff] at hf
      obtain ⟨u', hu', rfl⟩ := hf
      exact .iface t (freeze_ok s hI d (.c h1) hu' hr)
    case osl b off len cap =>
      obtain ⟨ad, cap', rfl, hs, hl, hc, ha⟩ := hv.osls
      cases hb : getB h b with
      | none => rw [hb] at hf; cases hf
      | some blk =>
        rw [hb] at hf hr
        simp only at hf hr
        split at hf
        · rename_i hfit
          simp only [Option.map_eq_some_iff] at hf
          obtain ⟨us, hus, rfl⟩ := hf
          obtain ⟨r, hr0⟩ := s.mem.has b blk (getB_some hb).1 (getB_some hb).2
          obtain ⟨ys, B⟩ := s.mem.blk b blk r (getB_some hb).1 hr0
          obtain ⟨el, sp, hrow⟩ := B.row
          have hul : us.length = len * blk.esz := by rw [mapM_len hus]; simp; omega
          have huo : us.all AV.one = true := mapM_all (fun x y hx hy => freeze_one d hx hy) hus (all_sub B.one _ _)
          have hvs : VCs w G2 us ((ys.drop off).take (len * blk.esz)) := by
            refine L (B.vals.takeN off (len * blk.esz)) hus ?_
            intro b' hb'
            refine hr b' (List.mem_cons_of_mem _ ?_)
            simp only [List.mem_flatMap] at hb' ⊢
            obtain ⟨c, hc1, hc2⟩ := hb'
            exact ⟨c, List.mem_of_mem_drop (List.mem_of_mem_take hc1), hc2⟩
          obtain ⟨c1, c2, c3⟩ := chunks_spec blk.ag blk.esz B.esz.1 B.esz.2 len us (by omega) huo
          have hfl : (chunks blk.ag blk.esz len us).flatMap AV.cells = us := by rw [c2, List.take_of_length_le (by omega)]
          obtain ⟨ak, ao, as⟩ := ad
          simp only at hs
          subst hs
          have := VC.sl (w := w) (G := G2) (vs := chunks blk.ag blk.esz len us) (xs := (ys.drop off).take (len * blk.esz)) (k := ak) (o := ao) (cap := cap') B.esz.1 (by rw [c1]; omega) c3 (by rw [hfl]; exact huo) ?_ (by rw [hfl]; exact hvs) (.inl rfl)
          · rw [c1] at this; exact this
          · intro j x hx
            have hj : j < len * blk.esz := by
              rcases Nat.lt_or_ge j (len * blk.esz) with hj | hj
              · exact hj
              · rw [List.getElem?_take_eq_none hj] at hx; cases hx
            have hcap : 0 < cap := by
              rcases Nat.eq_zero_or_pos len with h0 | h0
              · subst h0; omega
              · omega
            obtain ⟨r', hr', e⟩ := ha hcap
            have ek : ak = r' := congrArg Addr.block e
            have eo : ao = off := congrArg Addr.off e
            have er : r' = r := Option.some.inj (hr'.symm.trans B.loc)
            rw [ek, er, eo]
            rw [List.getElem?_take_of_lt hj, List.getElem?_drop] at hx
            exact ⟨by rw [cell_row hrow]; exact get_left hx, hr b (List.mem_cons_self) _ B.loc _⟩
        · cases hf

theorem freezes_ok {tmps : Array Value} (s : SR Gl base F w G tmps sl h) {G2 : Gh} (hI : ∀ k o, G.I k o → G2.I k o) : ∀ {vs us : List AV} {xs : List Value}, VRs w G vs xs → vs.mapM (freeze h) = some us →
    (∀ b ∈ vs.flatMap (reachN h 8), ∀ r, G.loc b = some r → ∀ o, G2.I r o) → VCs w G2 us xs
  | [], us, xs, hv, hm, _ => by obtain _ | _ := hv; simp at hm; subst hm; exact .nil
  | v :: vs, us, xs, hv, hm, hr => by
    obtain _ | ⟨h1, h2⟩ := hv
    rw [List.mapM_cons] at hm
    simp only [bind, Option.bind_eq_some_iff, pure, Option.some.injEq] at hm
    obtain ⟨u, hu, us, hus, rfl⟩ := hm
    simp only [List.flatMap_cons, List.mem_append] at hr
    exact .cons (freeze_ok s hI 8 h1 hu (fun b hb => hr b (.inl hb))) (freezes_ok s hI h2 hus (fun b hb => hr b (.inr hb)))

/-- What has no slice and no address is the same wherever memory may be read. -/
theorem flat_ok : ∀ (d : Nat) {v : AV} {x : Value} {w : World} {G : Gh}, AV.flatN d v = true → VC w G v x → ∀ (w' : World) (G' : Gh), VC w' G' v x
  | 0, _, _, _, _, hf, _ => by simp [AV.flatN] at hf
  | d + 1, v, x, w, G, hf, hv => by
    intro w' G'
    have L : ∀ {vs : List AV} {xs : List Value}, vs.all (AV.flatN d) = true → VCs w G vs xs → VCs w' G' vs xs := by
      intro vs
      induction vs with
      | nil => intro xs _ hv; obtain _ | _ := hv; exact .nil
      | cons v vs ih =>
        intro xs ha hv
        simp only [List.all_cons, Bool.and_eq_true] at ha
        obtain _ | ⟨h1, h2⟩ := hv
        exact .cons (flat_ok d ha.1 h1 w' G') (ih ha.2 h2)
    cases hv with
    | bool => exact .bool _
    | int => exact .int _ _
    | str => exact .str _
    | nilp => exact .nilp
    | nilf => exact .nilf
    | nili => exact .nili
    | nils => exact .nils
    | hole => cases hf
    | z => cases hf
    | agg h ho => exact .agg (L hf h) ho
    | tup h => exact .tup (L hf h)
    | sl => cases hf
    | eref => cases hf
    | fn => cases hf
    | iface t h => exact .iface t (flat_ok d hf h w' G')
    | gptr => cases hf
    | any => cases hf

def Globs (Gl : Nat → Option (List AV)) (w : World) (G : Gh) : Prop := ∀ g cs, Gl g = some cs → ∃ xs, Reads w G g 0 xs ∧ VCs w G cs xs ∧ cs.all AV.one = true

/-- A call that is handed data gives data, and leaves old memory as it was. -/
def QOK (P : Program) (Gl : Nat → Option (List AV)) (q : Nat → List AV → Option AV) : Prop :=
  ∀ g args v, q g args = some v → ∀ (w : World) (R : Nat → Role) (xs : List Value), (∀ r b, R r ≠ .own b) → (∀ r, w.heap.size ≤ r → R r = .imm) → VCs w ⟨R, fun _ => none⟩ args xs → Globs Gl w ⟨R, fun _ => none⟩ →
    Calls P g ⟨xs⟩ w fun e w' => ∃ y, e = .returned y ∧ Below w.heap.size w w' ∧ ∃ G', (∀ r, r < w.heap.size → G'.role r = R r) ∧ VC w' G' v y

def MOK (P : Program) (Gl : Nat → Option (List AV)) (m : Nat → List AV → Store → Option (AV × Store)) : Prop :=
  ∀ g args h v h', m g args h = some (v, h') → ∀ base F w G (xs : List Value), SR Gl base F w G #[] [] h → VRs w G args xs → (∀ v ∈ args, v.untip = v) →
    Calls P g ⟨xs⟩ w fun e w' => ∃ y, e = .returned y ∧ Below base w w' ∧ ∃ G', Ext w G w' G' ∧ SR Gl base F w' G' #[] [] h' ∧ VC w' G' v y

def KOK (P : Program) (Gl : Nat → Option (List AV)) (k : Nat → List AV → Store → Option (AV × Store)) : Prop :=
  ∀ g args h v h', k g args h = some (v, h') → ∀ base F w G (xs : List Value), SR Gl base F w G #[] [] h → VRs w G args xs → (∀ v ∈ args, v.untip = v) →
    Calls P g ⟨xs⟩ w fun e w' => ∃ y, e = .returned y ∧ Below base w w' ∧ ∃ G', Ext w G w' G' ∧ SR Gl base F w' G' #[] [] h' ∧ VR w' G' v y ∧
      ∀ t, tipOf v y = some t → TipOK base w' G' t ∧ ∀ l t', TipAt F w' G' #[] [] h' l t' → t'.1 ≠ t.1

/-- Those who wait while a call runs on the common memory. -/
def Fr.with (F : Fr) (tmps : Array Value) (sl : List AV) : Fr := ⟨fun t => F.tips t ∨ ∃ (i : Nat) (v : AV) (x : Value), sl[i]? = some v ∧ tmps[i]? = some x ∧ tipOf v x = some t, F.R, F.notOwn⟩

theorem SR.leave {tmps : Array Value} (s : SR Gl base F w G tmps sl h) : SR Gl base (F.with tmps sl) w G #[] [] h := by
  have sub : ∀ l t, TipAt (F.with tmps sl) w G #[] [] h l t → ∃ l', TipAt F w G tmps sl h l' t ∧ ((∃ b o, l = .cell b o ∧ l' = l) ∨ l = .fr t.1 ∧ ((∃ i, l' = .slot i) ∨ l' = .fr t.1)) := by
    intro l t a
    cases a with
    | slot hv hx ht => simp at hv
    | cell hb hv hr hx ht => exact ⟨_, .cell hb hv hr hx ht, .inl ⟨_, _, rfl, rfl⟩⟩
    | fr ht =>
      rcases ht with ht | ⟨i, v, x, h1, h2, h3⟩
      · exact ⟨_, .fr ht, .inr ⟨rfl, .inr rfl⟩⟩
      · exact ⟨_, .slot h1 h2 h3, .inr ⟨rfl, .inl ⟨i, rfl⟩⟩⟩
  refine ⟨rfl, .nil, ⟨s.mem.lt, s.mem.blk, s.mem.has, s.mem.own, s.mem.old, s.mem.new, s.mem.low⟩, ?_, ?_, s.glob, s.room⟩
  · intro l t a
    obtain ⟨l', a', _⟩ := sub l t a
    exact s.tips l' t a'
  · intro l l' t t' a a' e
    obtain ⟨k, b, hb⟩ := sub l t a
    obtain ⟨k', b', hb'⟩ := sub l' t' a'
    have := s.inj k k' t t' b b' e
    rcases hb with ⟨x, y, rfl, rfl⟩ | ⟨rfl, hb⟩ <;> rcases hb' with ⟨x', y', rfl, rfl⟩ | ⟨rfl, hb'⟩
    · exact this
    · rcases hb' with ⟨i, rfl⟩ | rfl <;> cases this
    · rcases hb with ⟨i, rfl⟩ | rfl <;> cases this
    · rw [e]

theorem SR.back {tmps : Array Value} {w' : World} {G' : Gh} {h' : Store} (s : SR Gl base F w G tmps sl h) (E : Ext w G w' G') (s' : SR Gl base (F.with tmps sl) w' G' #[] [] h') : SR Gl base F w' G' tmps sl h' := by
  have sub : ∀ l t, TipAt F w' G' tmps sl h' l t → (∃ b o, l = .cell b o ∧ TipAt (F.with tmps sl) w' G' #[] [] h' l t) ∨ (TipAt F w G tmps sl h l t ∧ TipAt (F.with tmps sl) w' G' #[] [] h' (.fr t.1) t ∧ ((∃ i, l = .slot i) ∨ l = .fr t.1)) := by
    intro l t a
    cases a with
    | slot hv hx ht => exact .inr ⟨.slot hv hx ht, .fr (.inr ⟨_, _, _, hv, hx, ht⟩), .inl ⟨_, rfl⟩⟩
    | cell hb hv hr hx ht => exact .inl ⟨_, _, rfl, .cell hb hv hr hx ht⟩
    | fr ht => exact .inr ⟨.fr ht, .fr (.inl ht), .inr rfl⟩
  refine ⟨s.size, s.vals.ext E, ⟨s'.mem.lt, s'.mem.blk, s'.mem.has, s'.mem.own, s'.mem.old, s'.mem.new, s'.mem.low⟩, ?_, ?_, s'.glob, s'.room⟩
  · intro l t a
    rcases sub l t a with ⟨b, o, rfl, a'⟩ | ⟨_, a', _⟩
    · exact s'.tips _ _ a'
    · exact s'.tips _ _ a'
  · intro l l' t t' a a' e
    rcases sub l t a with ⟨b, o, rfl, c⟩ | ⟨c, d, hl⟩ <;> rcases sub l' t' a' with ⟨b', o', rfl, c'⟩ | ⟨c', d', hl'⟩
    · exact s'.inj _ _ _ _ c c' e
    · cases s'.inj _ _ _ _ c d' e
    · cases s'.inj _ _ _ _ d c' e
    · exact s.inj _ _ _ _ c c' e

end Go.Proofs.YteaopgkajbfkeaaGreatDoor
namespace Go.Proofs.YteaopgkajbfkeaaGreatDoor
open Go Go.RowKit

variable {Gl : Nat → Option (List AV)} {base : Nat} {F : Fr} {w : World} {G : Gh} {sl : List AV} {h : Store} {a : Act} {P : Program} {C : Env} {b0 : Nat}

/-- The function has a Go body, and no stand-in. -/
def callB (P : Program) (g : FuncId) : Bool :=
  match P.funcs[g]? with
  | some fn => fn.name != "runtime.NumGoroutine" && fn.body.isSome
  | none => false

theorem run_callFunc {g : FuncId} (hb : callB P g = true) (xs : Array Value) (w : World) : (callFunc g xs).run P w = .ok (.enter g xs) w := by
  unfold callB at hb
  split at hb
  · rename_i fn hf
    simp only [Bool.and_eq_true, bne_iff_ne] at hb
    obtain ⟨h1, h2⟩ := hb
    obtain ⟨bd, h3⟩ := Option.isSome_iff_exists.1 h2
    simp [callFunc, hf, h1, h3]
  · cases hb

/-- A call that ends as the evaluator says. -/
def CallEnds (P : Program) (Gl : Nat → Option (List AV)) (base : Nat) (F : Fr) (w : World) (G : Gh) (a : Act) (dst : Option Nat) (sl' : List AV) (h' : Store) (g : FuncId) (xs : Array Value) : Prop :=
  Calls P g xs w fun e w' => ∃ y, e = .returned y ∧ Ends Gl base F w G a dst sl' h' y w'

theorem below_cell {w w' : World} (hb : Below w.heap.size w w') {k o : Nat} {x : Value} (hx : w.cell? ⟨k, o, none⟩ = some x) : w'.cell? ⟨k, o, none⟩ = some x := by
  rw [hb.cell (p := ⟨k, o, none⟩) (cell_lt hx)]; exact hx

theorem SR.grown {tmps : Array Value} (s : SR Gl base F w G tmps sl h) {w' : World} (hb : Below w.heap.size w w') : Ext w G w' G ∧ SR Gl base F w' G tmps sl h := by
  have E : Ext w G w' G := ⟨fun k o x hx hi => ⟨below_cell hb hx, hi⟩, fun _ _ h => h⟩
  refine ⟨E, s.move E ⟨s.mem.lt, ?_, s.mem.has, s.mem.own, s.mem.old, fun r hr => s.mem.new r (Nat.le_trans hb.size hr), fun b r hr => ?_⟩ ?_ ?_ (Nat.le_trans s.room hb.size)⟩
  · intro b blk r hbk hr
    obtain ⟨ys, B⟩ := s.mem.blk b blk r hbk hr
    obtain ⟨el, sp, hrow⟩ := B.row
    exact ⟨ys, B.loc, ⟨el, sp, by rw [hb.block r (heap_lt hrow)]; exact hrow⟩, B.vals.ext E, B.one, B.esz, B.role⟩
  · have := s.mem.low b r hr
    exact ⟨this.1, Nat.lt_of_lt_of_le this.2 hb.size⟩
  · intro l t a
    cases a with
    | slot hv hx ht => exact .slot hv hx ht
    | fr ht => exact .fr ht
    | @cell b' o' r' blk' v x t hb' hv hr' hx ht =>
      have hlt := (s.mem.low _ _ hr').2
      rw [hb.cell (p := ⟨r', o', none⟩) hlt] at hx
      exact .cell hb' hv hr' hx ht
  · rintro l t - ⟨h1, h2, cs, el, fz, h3, h4⟩
    exact ⟨h1, h2, cs, el, fz, by rw [hb.block _ (heap_lt h3)]; exact h3, h4⟩

/-- What a call that gets data alone may read: not the own blocks. -/
def Gh.shown (G : Gh) (r : Nat) : Role := match G.role r with | .own _ => .out | x => x

theorem Gh.shown_I (G : Gh) (k o : Nat) : (⟨G.shown, fun _ => none⟩ : Gh).I k o ↔ G.I k o := by
  simp only [Gh.I, Gh.shown]
  cases G.role k <;> simp

theorem Gh.shown_notOwn (G : Gh) (r b : Nat) : G.shown r ≠ .own b := by
  simp only [Gh.shown]
  split <;> simp_all

/-- The common end of a call that got data. -/
theorem q_end (s : SR Gl base F w G a.tmps sl h) (hq : QOK P Gl C.q) {g : Nat} {us : List AV} {xs : List Value} {v : AV} (dst : Option Nat) (hv : VCs w G us xs) (hc : C.q g us = some v) :
    CallEnds P Gl base F w G a dst (setOpt sl dst v) h g ⟨xs⟩ := by
  have ex : ∀ k o x, w.cell? ⟨k, o, none⟩ = some x → G.I k o → w.cell? ⟨k, o, none⟩ = some x ∧ (⟨G.shown, fun _ => none⟩ : Gh).I k o := fun k o x hx hi => ⟨hx, (G.shown_I k o).2 hi⟩
  refine (hq g us v hc w G.shown xs G.shown_notOwn (fun r hr => by simp only [Gh.shown, s.mem.new r hr]) (hv.ext ex) ?_).mono ?_
  · intro g' cs hg
    obtain ⟨ys, h1, h2, h3⟩ := s.glob g' cs hg
    exact ⟨ys, h1.ext ex, h2.ext ex, h3⟩
  · rintro e w' ⟨y, rfl, hb, G', hr, hvy⟩
    obtain ⟨E, s'⟩ := s.grown hb
    have hvy' : VC w' G v y := hvy.ext (fun k o x hx hi => ⟨hx, by
      rcases Nat.lt_or_ge k w.heap.size with hlt | hge
      · rw [Gh.I_of_role (G := ⟨G.shown, fun _ => none⟩) (hr k hlt)] at hi
        exact (G.shown_I k o).1 hi
      · simp only [Gh.I, s.mem.new k hge]⟩)
    exact ⟨y, rfl, G, E, hb.mono s.room, s'.putO dst (.c hvy') hvy'.noTip⟩

theorem op_callq (s : SR Gl base F w G a.tmps sl h) (hq : QOK P Gl C.q) {g : Nat} {xs : List Operand} {ps : List POpd} {v : AV} {h' : Store} (dst : Option Nat) (hp : opdsB xs ps = true) (he : evOp C b0 (.callq g ps) sl h = some (v, h')) :
    CallEnds P Gl base F w G a dst (setOpt sl dst v) h' g (xs.map a.eval).toArray ∧ ∃ us, C.q g us = some v := by
  have hx := opdsB_ok s hp
  simp only [evOp, Option.bind_eq_some_iff] at he
  obtain ⟨us, hus, v0, hv0, he⟩ := he
  have hus' : (ps.map (POpd.get sl)).mapM (freeze h) = some us := by rw [List.mapM_map]; exact hus
  split at he
  · rename_i hc
    simp only [Option.some.injEq, Prod.mk.injEq] at he
    obtain ⟨rfl, rfl⟩ := he
    refine ⟨?_, us, hv0⟩
    simp only [Bool.or_eq_true] at hc
    rcases hc with hc | hc
    · have hr : (ps.map (POpd.get sl)).flatMap (reachN h 8) = [] := by
        rw [List.flatMap_map]
        simpa using hc
      exact q_end s hq dst (freezes_ok s (fun _ _ h => h) hx hus' (by rw [hr]; intro b hb; cases hb)) hv0
    · have hall : ∀ k o, G.I k o → (⟨fun _ => Role.imm, fun _ => none⟩ : Gh).I k o := fun _ _ _ => trivial
      refine (hq g us v0 hv0 w (fun _ => .imm) _ (by simp) (fun _ _ => rfl) (freezes_ok s hall hx hus' (fun _ _ _ _ _ => trivial)) ?_).mono ?_
      · intro g' cs hg
        obtain ⟨ys, h1, h2, h3⟩ := s.glob g' cs hg
        exact ⟨ys, h1.ext (G' := ⟨fun _ => Role.imm, fun _ => none⟩) (fun k o x hx _ => ⟨hx, trivial⟩), h2.ext (G' := ⟨fun _ => Role.imm, fun _ => none⟩) (fun k o x hx _ => ⟨hx, trivial⟩), h3⟩
      · rintro e w' ⟨y, rfl, hb, G', hr, hvy⟩
        obtain ⟨E, s'⟩ := s.grown hb
        have hvy' : VC w' G v0 y := flat_ok 4 hc hvy w' G
        exact ⟨y, rfl, G, E, hb.mono s.room, s'.putO dst (.c hvy') hvy'.noTip⟩
  · cases he

theorem sealAll_ro : ∀ (l : List Nat) (h : Store) (b : Nat) (blk : Blk), (sealAll h l)[b]? = some blk → (b ∈ l ∨ ∃ blk0, h[b]? = some blk0 ∧ blk0.ro = true) → blk.ro = true
  | [], h, b, blk, hb, hc => by
    rcases hc with hc | ⟨blk0, h0, hr⟩
    · cases hc
    · simp only [sealAll, List.foldl_nil] at hb
      rw [hb] at h0
      cases h0
      exact hr
  | c :: l, h, b, blk, hb, hc => by
    refine sealAll_ro l (h.modify c fun blk => { blk with ro := true }) b blk hb ?_
    rcases hc with hc | ⟨blk0, h0, hr⟩
    · rcases List.mem_cons.1 hc with rfl | hc
      · by_cases hm : b ∈ l
        · exact .inl hm
        · right
          have : ∃ blk1, (h.modify b fun blk => { blk with ro := true })[b]? = some blk1 := by
            have hlen : ∀ (l : List Nat) (h : Store), (sealAll h l).length = h.length := by
              intro l
              induction l with
              | nil => intro h; rfl
              | cons c l ih => intro h; show (sealAll (h.modify c _) l).length = _; rw [ih]; simp
            have hlt : b < (sealAll (h.modify b fun blk => { blk with ro := true }) l).length := by
              rcases Nat.lt_or_ge b (sealAll (h.modify b fun blk => { blk with ro := true }) l).length with h1 | h1
              · exact h1
              · have hb' : (sealAll (h.modify b fun blk => { blk with ro := true }) l)[b]? = some blk := hb
                rw [List.getElem?_eq_none h1] at hb'; cases hb'
            rw [hlen] at hlt
            exact ⟨_, List.getElem?_eq_getElem hlt⟩
          obtain ⟨blk1, h1⟩ := this
          refine ⟨blk1, h1, ?_⟩
          rw [List.getElem?_modify] at h1
          cases hb0 : h[b]? with
          | none => rw [hb0] at h1; cases h1
          | some x => rw [hb0] at h1; simp at h1; subst h1; rfl
      · exact .inl hc
    · right
      rw [List.getElem?_modify, h0]
      by_cases hcb : c = b
      · exact ⟨{ blk0 with ro := true }, by simp [hcb], rfl⟩
      · exact ⟨blk0, by simp [hcb], hr⟩

theorem op_callqs (s : SR Gl base F w G a.tmps sl h) (hq : QOK P Gl C.q) {g : Nat} {xs : List Operand} {ps : List POpd} {v : AV} {h' : Store} (dst : Option Nat) (hp : opdsB xs ps = true) (he : evOp C b0 (.callqs g ps) sl h = some (v, h')) :
    CallEnds P Gl base F w G a dst (setOpt sl dst v) h' g (xs.map a.eval).toArray ∧ ∃ us, C.q g us = some v := by
  have hx := opdsB_ok s hp
  simp only [evOp, Option.bind_eq_some_iff, Option.map_eq_some_iff, Prod.mk.injEq] at he
  obtain ⟨us, hus, v0, hv0, rfl, rfl⟩ := he
  have hus' : (ps.map (POpd.get sl)).mapM (freeze h) = some us := by rw [List.mapM_map]; exact hus
  have hfm : ps.flatMap (fun x => reachN h 8 (POpd.get sl x)) = (ps.map (POpd.get sl)).flatMap (reachN h 8) := by rw [List.flatMap_map]
  rw [hfm]
  obtain ⟨G2, E, s2, hl, hsI⟩ := s.shutAll ((ps.map (POpd.get sl)).flatMap (reachN h 8))
  have hv : VCs w G2 us (xs.map a.eval) := by
    refine freezes_ok s hsI hx hus' ?_
    · intro b hb r hr o
      have hr2 : G2.loc b = some r := by rw [hl]; exact hr
      obtain ⟨blk, hblk⟩ : ∃ blk, (sealAll h ((ps.map (POpd.get sl)).flatMap (reachN h 8)))[b]? = some blk := by
        exact ⟨_, List.getElem?_eq_getElem (s2.mem.lt b r hr2)⟩
      obtain ⟨ys, B⟩ := s2.mem.blk b blk r hblk hr2
      have hro := sealAll_ro _ h b blk hblk (.inl hb)
      have := B.role
      rw [if_pos hro] at this
      simp only [Gh.I, this]
  refine ⟨?_, us, hv0⟩
  refine (q_end s2 hq dst hv hv0).mono ?_
  rintro e w' ⟨y, rfl, G3, E3, hb, s3⟩
  exact ⟨y, rfl, G3, E.trans E3, hb, s3⟩

end Go.Proofs.YteaopgkajbfkeaaGreatDoor
