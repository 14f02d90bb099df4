/- Operations that turn no memory: what the model does is what the evaluator says. More operations that turn no memory. Comparisons, conversions, slices, indices: operations that turn no memory. Slices and their parts, conversions, indices. Addresses, fields, elements, lengths, parts: the rest of the operations that turn no memory. -/
import Derived.Test.YteaopgkajbfkeaaGreatDoorWAA
set_option linter.unusedSimpArgs false
set_option linter.unusedVariables false
namespace Go.Proofs.YteaopgkajbfkeaaGreatDoor
open Go Go.RowKit

section inv
variable {w : World} {G : Gh} {x : Value}
theorem VR.bool {b : Bool} (h : VR w G (.bool b) x) : x = .bool b := by cases h with | c h => cases h; rfl
theorem VR.int {k : IntKind} {n : Int} (h : VR w G (.int k n) x) : x = .int k n := by cases h with | c h => cases h; rfl
theorem VR.str {s : List UInt8} (h : VR w G (.str s) x) : x = .string ⟨⟨s⟩⟩ := by cases h with | c h => cases h; rfl
theorem VR.nilp (h : VR w G .nilp x) : x = .pointer none := by cases h with | c h => cases h; rfl
theorem VR.nilf (h : VR w G .nilf x) : x = .nilFunc := by cases h with | c h => cases h; rfl
theorem VR.nili (h : VR w G .nili x) : x = .nilIface := by cases h with | c h => cases h; rfl
theorem VR.nils (h : VR w G .nils x) : x = .slice none 0 0 := by cases h with | c h => cases h; rfl
theorem VR.aggs {cs : List AV} (h : VR w G (.agg cs) x) : ∃ xs, x = .agg ⟨xs⟩ ∧ VRs w G cs xs ∧ cs.all AV.one = true := by
  cases h with
  | c h => cases h with | agg h ho => exact ⟨_, rfl, h.toVRs, ho⟩
  | agg h ho => exact ⟨_, rfl, h, ho⟩
theorem VR.tups {cs : List AV} (h : VR w G (.tup cs) x) : ∃ xs, x = .tuple ⟨xs⟩ ∧ VRs w G cs xs := by
  cases h with
  | c h => cases h with | tup h => exact ⟨_, rfl, h.toVRs⟩
  | tup h => exact ⟨_, rfl, h⟩
theorem VR.slc {e : Nat} {vs : List AV} (h : VR w G (.sl e vs) x) : VC w G (.sl e vs) x := by cases h with | c h => exact h
theorem VR.gslc {e : Nat} {vs : List AV} (h : VR w G (.gsl e vs) x) : VC w G (.sl e vs) x := by
  cases h with
  | c h => cases h
  | gsl h => exact h
theorem VC.sls {e : Nat} {vs : List AV} (h : VC w G (.sl e vs) x) : ∃ xs k o sp cap, x = .slice (some ⟨k, o, sp⟩) vs.length cap ∧ 0 < e ∧ vs.length ≤ cap ∧ (∀ v ∈ vs, v.cells.length = e) ∧
    (vs.flatMap AV.cells).all AV.one = true ∧ Reads w G k o xs ∧ VCs w G (vs.flatMap AV.cells) xs ∧ (sp = none ∨ cap = 0) := by
  cases h with | sl hz hc hl ho hr h hs => exact ⟨_, _, _, _, _, rfl, hz, hc, hl, ho, hr, h, hs⟩
theorem VR.osls {b off len cap : Nat} (h : VR w G (.osl b off len cap) x) : ∃ a cap', x = .slice (some a) len cap' ∧ a.spot = none ∧ len ≤ cap ∧ cap ≤ cap' ∧ (0 < cap → ∃ r, G.loc b = some r ∧ a = ⟨r, off, none⟩) := by
  cases h with
  | c h => cases h
  | osl h1 h2 h3 h4 => exact ⟨_, _, rfl, h1, h2, h3, h4⟩
theorem VR.refs {b off : Nat} (h : VR w G (.ref b off) x) : ∃ r, x = .pointer (some ⟨r, off, none⟩) ∧ G.loc b = some r := by
  cases h with
  | c h => cases h
  | ref h => exact ⟨_, rfl, h⟩
theorem VR.erefs {cs : List AV} {off : Nat} (h : VR w G (.eref cs off) x) : ∃ xs k o, x = .pointer (some ⟨k, o + off, none⟩) ∧ cs.all AV.one = true ∧ Reads w G k o xs ∧ VCs w G cs xs := by
  cases h with | c h => cases h with | eref ho hr h => exact ⟨_, _, _, rfl, ho, hr, h⟩
theorem VR.gptrs {g off : Nat} (h : VR w G (.gptr g off) x) : x = .pointer (some ⟨g, off, none⟩) := by cases h with | c h => cases h; rfl
theorem VR.ifaces {t : Nat} {v : AV} (h : VR w G (.iface t v) x) : ∃ y, x = .iface t y ∧ VC w G v y := by cases h with | c h => cases h with | iface t h => exact ⟨_, rfl, h⟩
theorem VR.fns {f : Nat} {a b : List AV} (h : VR w G (.fn f a b) x) : ∃ xs ys, x = .func (.func f) ⟨xs⟩ ⟨ys⟩ ∧ VRs w G a xs ∧ VRs w G b ys := by
  cases h with
  | c h => cases h with | fn f h h' => exact ⟨_, _, rfl, h.toVRs, h'.toVRs⟩
  | fn f h h' => exact ⟨_, _, rfl, h, h'⟩
end inv

def constB : Value → KV → Bool
  | .bool a, .tf b => a == b
  | .int k n, .i k' n' => decide (k = k') && decide (n = n')
  | .string s, .s l => decide (s.data.toList = l)
  | .pointer none, .nilp => true
  | .nilFunc, .nilf => true
  | .nilIface, .nili => true
  | .slice none 0 0, .nils => true
  | _, _ => false

theorem constB_ok {w : World} {G : Gh} {v : Value} {c : KV} (h : constB v c = true) : VC w G c.av v := by
  unfold constB at h
  split at h
  · simp at h; subst h; exact .bool _
  · simp at h; obtain ⟨rfl, rfl⟩ := h; exact .int _ _
  · simp at h; subst h; rename_i s; obtain ⟨⟨l⟩⟩ := s; exact .str _
  · exact .nilp
  · exact .nilf
  · exact .nili
  · exact .nils
  · cases h

theorem KV.av_one (c : KV) : c.av.one = true := by cases c <;> rfl
theorem KV.av_untip (c : KV) : c.av.untip = c.av := by cases c <;> rfl
theorem KV.tip (c : KV) (x : Value) : tipOf c.av x = none := by cases c <;> rfl

def opdB : Operand → POpd → Bool
  | .tmp t, .s n => t == n
  | .const v, .k c => constB v c
  | .func f, .f g => f == g
  | .global g, .gv n => g == n
  | _, _ => false

variable {Gl : Nat → Option (List AV)} {base : Nat} {F : Fr} {w : World} {G : Gh} {sl : List AV} {h : Store} {a : Act}

theorem opdB_ok (s : SR Gl base F w G a.tmps sl h) {o : Operand} {p : POpd} (hb : opdB o p = true) : VR w G (p.get sl) (a.eval o) := by
  unfold opdB at hb
  split at hb
  · simp at hb; subst hb; exact s.get _
  · exact .c (constB_ok hb)
  · simp at hb; subst hb; exact .c (.fn _ .nil .nil)
  · simp at hb; subst hb; exact .c (.gptr _ _)
  · cases hb

def opdsB (os : List Operand) (ps : List POpd) : Bool :=
  match os, ps with
  | [], [] => true
  | o :: os, p :: ps => opdB o p && opdsB os ps
  | _, _ => false

theorem opdsB_ok (s : SR Gl base F w G a.tmps sl h) : ∀ {os : List Operand} {ps : List POpd}, opdsB os ps = true → VRs w G (ps.map (POpd.get sl)) (os.map a.eval)
  | [], [], _ => .nil
  | o :: os, p :: ps, hb => by
    simp only [opdsB, Bool.and_eq_true] at hb
    exact .cons (opdB_ok s hb.1) (opdsB_ok s hb.2)
  | [], _ :: _, hb => by simp [opdsB] at hb
  | _ :: _, [], hb => by simp [opdsB] at hb

def isAggD : TypeDesc → Bool
  | .struct _ => true
  | .array _ _ => true
  | _ => false

/-- The type's values are structs or arrays (or not), of so many cells. -/
def tyIs (P : Program) (t : TypeId) (ag : Bool) (sz : Nat) : Bool :=
  match P.underlying t, P.info? t with
  | some d, some i => isAggD d == ag && i.size == sz
  | _, _ => false

theorem tyIs_ok {P : Program} {t : TypeId} {ag : Bool} {sz : Nat} (h : tyIs P t ag sz = true) : ∃ d i, P.underlying t = some d ∧ P.info? t = some i ∧ isAggD d = ag ∧ i.size = sz := by
  unfold tyIs at h
  split at h
  · rename_i d i hd hi
    simp at h
    exact ⟨d, i, hd, hi, h.1, h.2⟩
  · cases h

section runs
variable (P : Program)
theorem run_underlying {t : TypeId} {d : TypeDesc} (h : P.underlying t = some d) (w : World) : (underlying t).run P w = .ok d w := by simp [underlying, h]
theorem run_typeInfo {t : TypeId} {i : TypeInfo} (h : P.info? t = some i) (w : World) : (typeInfo t).run P w = .ok i w := by simp [typeInfo, h]
theorem run_sizeOf {t : TypeId} {i : TypeInfo} (h : P.info? t = some i) (w : World) : (sizeOf t).run P w = .ok i.size w := by simp [sizeOf, typeInfo, h]
theorem run_isAgg {t : TypeId} {d : TypeDesc} (h : P.underlying t = some d) (w : World) : (isAgg t).run P w = .ok (isAggD d) w := by
  simp [isAgg, underlying, h]; cases d <;> rfl

/-- A variable that is read: its cells are part of a known row. -/
theorem run_loadPart {t : TypeId} {ag : Bool} {sz : Nat} (ht : tyIs P t ag sz = true) {k o off : Nat} {xs : List Value} (hx : ∀ (j : Nat) x, xs[j]? = some x → w.cell? ⟨k, o + j, none⟩ = some x) :
    (ag = true → off + sz ≤ xs.length → (loadVar t ⟨k, o + off, none⟩).run P w = .ok (.agg ⟨(xs.drop off).take sz⟩) w) ∧
    (ag = false → ∀ x, xs[off]? = some x → (loadVar t ⟨k, o + off, none⟩).run P w = .ok x w) := by
  obtain ⟨d, i, hd, hi, hag, hsz⟩ := tyIs_ok ht
  refine ⟨fun e hl => ?_, fun e x hxo => ?_⟩
  · have hl' : ((xs.drop off).take sz).length = sz := by simp; omega
    have := run_loadCells_list (P := P) (w := w) ⟨k, o + off, none⟩ ((xs.drop off).take sz) (by
      intro j v hv
      rw [add_none]
      have hj : j < sz := by
        rcases Nat.lt_or_ge j sz with hj | hj
        · exact hj
        · rw [List.getElem?_eq_none (by omega)] at hv; cases hv
      rw [List.getElem?_take_of_lt hj, List.getElem?_drop] at hv
      rw [Nat.add_assoc]
      exact hx _ _ hv)
    rw [hl'] at this
    simp only [loadVar, Sem.run_bind, run_isAgg P hd, Result.andThen_ok, hag, e, if_true, run_sizeOf P hi, hsz, this, Sem.run_pure]
  · simp only [loadVar, Sem.run_bind, run_isAgg P hd, Result.andThen_ok, hag, e, Bool.false_eq_true, if_false, run_load, hx _ _ hxo]
end runs

theorem partOf_ag {sz off : Nat} {cs : List AV} {v : AV} (h : partOf true sz off (.agg cs) = some v) : v = .agg ((cs.drop off).take sz) ∧ off + sz ≤ cs.length := by
  simp only [partOf, if_true] at h
  split at h
  · rename_i hc
    cases h
    obtain ⟨rfl, rfl⟩ := hc
    simp
  · split at h
    · cases h; exact ⟨rfl, by assumption⟩
    · cases h
theorem partOf_sc {sz off : Nat} {cs : List AV} {v : AV} (h : partOf false sz off (.agg cs) = some v) : cs[off]? = some v := by
  simpa only [partOf, Bool.false_eq_true, if_false] using h

theorem all_sub {p : AV → Bool} {cs : List AV} (h : cs.all p = true) (off sz : Nat) : ((cs.drop off).take sz).all p = true := by
  simp only [List.all_eq_true] at *
  exact fun x hx => h x (List.mem_of_mem_drop (List.mem_of_mem_take hx))

/-- The part of a row of cells, as a value. -/
theorem VRs.part {w : World} {G : Gh} {ag : Bool} {sz off : Nat} {cs : List AV} {xs : List Value} {v : AV} (hr : VRs w G cs xs) (ho : cs.all AV.one = true) (h : partOf ag sz off (.agg cs) = some v) :
    (ag = true ∧ off + sz ≤ xs.length ∧ VR w G v (.agg ⟨(xs.drop off).take sz⟩) ∧ v = .agg ((cs.drop off).take sz)) ∨ (ag = false ∧ ∃ x, xs[off]? = some x ∧ VR w G v x ∧ cs[off]? = some v) := by
  cases ag with
  | true =>
    obtain ⟨rfl, hl⟩ := partOf_ag h
    exact .inl ⟨rfl, by rw [← hr.length]; exact hl, .agg ((hr.drop off).take sz) (all_sub ho _ _), rfl⟩
  | false =>
    have hv := partOf_sc h
    obtain ⟨x, hx, hv'⟩ := hr.get hv
    exact .inr ⟨rfl, x, hx, hv', hv⟩

theorem agg_map_untip {w : World} {G : Gh} {cs : List AV} {xs : List Value} (h : VR w G (.agg cs) (.agg ⟨xs⟩)) : VR w G (.agg (cs.map AV.untip)) (.agg ⟨xs⟩) := by
  obtain ⟨ys, e, h1, h2⟩ := h.aggs
  cases e
  exact .agg h1.untip (by rw [all_one_untip]; exact h2)

theorem op_load {P : Program} {C : Env} {b0 : Nat} (hg : C.g = Gl) (s : SR Gl base F w G a.tmps sl h) {t : TypeId} {ag : Bool} {sz : Nat} {x : Operand} {p : POpd} {v : AV} {h' : Store}
    (ht : tyIs P t ag sz = true) (hp : opdB x p = true) (he : evOp C b0 (.load ag sz p) sl h = some (v, h')) :
    ∃ y, (Instr.loadAt t (a.eval x)).run P w = .ok y w ∧ VR w G v y ∧ tipOf v y = none ∧ h' = h := by
  have hx := opdB_ok s hp
  simp only [evOp] at he
  generalize POpd.get sl p = u at hx he
  cases u with
  | ref b off =>
    obtain ⟨r, e, hr⟩ := hx.refs
    rw [e]
    simp only at he
    cases hb : getB h b with
    | none => rw [hb] at he; cases he
    | some blk =>
      rw [hb] at he
      obtain ⟨ys, B⟩ := s.mem.blk b blk r (getB_some hb).1 hr
      obtain ⟨el, sp, hrow⟩ := B.row
      simp only [Option.map_eq_some_iff] at he
      obtain ⟨v0, hv0, e2⟩ := he
      cases e2
      have L := run_loadPart P (w := w) ht (k := r) (o := 0) (off := off) (xs := ys) (fun j x hx => by rw [Nat.zero_add, cell_row hrow]; exact get_left hx)
      simp only [Nat.zero_add] at L
      rcases B.vals.part B.one hv0 with ⟨rfl, hl, hv, hve⟩ | ⟨rfl, y, hy, hv, _⟩
      · refine ⟨.agg ⟨(ys.drop off).take sz⟩, by simp [Instr.loadAt, Instr.sureAddr, L.1 rfl hl], ?_, ?_, rfl⟩
        · simp only [if_true]; subst hve; exact agg_map_untip hv
        · simp [tipOf]
      · exact ⟨y, by simp [Instr.loadAt, Instr.sureAddr, L.2 rfl y hy], hv.untip, tipOf_untip _ _, rfl⟩
  | eref cs off =>
    obtain ⟨xs, k, o, e, ho, hr, hc⟩ := hx.erefs
    rw [e]
    simp only [Option.map_eq_some_iff] at he
    obtain ⟨v0, hv0, e2⟩ := he
    cases e2
    have L := run_loadPart P (w := w) ht (k := k) (o := o) (off := off) (xs := xs) (fun j x hx => (hr j x hx).1)
    rcases hc.toVRs.part ho hv0 with ⟨rfl, hl, hv, hve⟩ | ⟨rfl, y, hy, hv, hcv⟩
    · exact ⟨.agg ⟨(xs.drop off).take sz⟩, by simp [Instr.loadAt, Instr.sureAddr, L.1 rfl hl], hv, by subst hve; rfl, rfl⟩
    · refine ⟨y, by simp [Instr.loadAt, Instr.sureAddr, L.2 rfl y hy], hv, ?_, rfl⟩
      obtain ⟨y', _, hy'⟩ := hc.get hcv
      cases v <;> first | rfl | cases hy'
  | gptr g off =>
    have e := hx.gptrs
    rw [e]
    simp only [hg] at he
    cases hgl : Gl g with
    | none => rw [hgl] at he; cases he
    | some cs =>
      rw [hgl] at he
      obtain ⟨xs, hr, hc, ho⟩ := s.glob g cs hgl
      simp only [Option.map_eq_some_iff] at he
      obtain ⟨v0, hv0, e2⟩ := he
      cases e2
      have L := run_loadPart P (w := w) ht (k := g) (o := 0) (off := off) (xs := xs) (fun j x hx => (hr j x hx).1)
      simp only [Nat.zero_add] at L
      rcases hc.toVRs.part ho hv0 with ⟨rfl, hl, hv, hve⟩ | ⟨rfl, y, hy, hv, hcv⟩
      · exact ⟨.agg ⟨(xs.drop off).take sz⟩, by simp [Instr.loadAt, Instr.sureAddr, L.1 rfl hl], hv, by subst hve; rfl, rfl⟩
      · refine ⟨y, by simp [Instr.loadAt, Instr.sureAddr, L.2 rfl y hy], hv, ?_, rfl⟩
        obtain ⟨y', _, hy'⟩ := hc.get hcv
        cases v <;> first | rfl | cases hy'
  | _ => cases he

theorem op_loadD {P : Program} {C : Env} {b0 : Nat} (hg : C.g = Gl) (s : SR Gl base F w G a.tmps sl h) {t : TypeId} {ag : Bool} {sz q : Nat} {x : Operand} {p : POpd} {v : AV} {h' : Store}
    (ht : tyIs P t ag sz = true) (hp : opdB x p = true) (he : evOp C b0 (.loadD q ag sz p) sl h = some (v, h')) :
    ∃ y, (Instr.loadAt t (a.eval x)).run P w = .ok y w ∧ VR w G v y ∧ tipOf v y = none ∧ h' = h := by
  refine op_load (C := C) (b0 := b0) hg s ht hp ?_
  simp only [evOp] at he ⊢
  split at he
  · rename_i b' o' b off h1 h2
    rw [h2]
    split at he
    · cases he
    · exact he
  · cases he

end Go.Proofs.YteaopgkajbfkeaaGreatDoor
namespace Go.Proofs.YteaopgkajbfkeaaGreatDoor
open Go Go.RowKit

variable {Gl : Nat → Option (List AV)} {base : Nat} {F : Fr} {w : World} {G : Gh} {sl : List AV} {h : Store} {a : Act} {P : Program}

theorem ba_toList (s : List UInt8) : (ByteArray.mk ⟨s⟩).toList = s := by rw [ByteArray.toList_eq]
theorem ba_size (s : List UInt8) : (ByteArray.mk ⟨s⟩).size = s.length := rfl
theorem ba_get (s : List UInt8) (i : Nat) : (ByteArray.mk ⟨s⟩)[i]? = s[i]? := by simp only [getElem?_def]; rfl
theorem ba_append (s t : List UInt8) : (ByteArray.mk ⟨s⟩) ++ ⟨⟨t⟩⟩ = ⟨⟨s ++ t⟩⟩ := by apply ByteArray.ext; simp
theorem ba_extract (s : List UInt8) (i j : Nat) : (ByteArray.mk ⟨s⟩).extract i j = ⟨⟨(s.take j).drop i⟩⟩ := by
  apply ByteArray.ext
  rw [ByteArray.data_extract]
  show (s.toArray.extract i j) = _
  rw [List.extract_toArray, List.extract_eq_drop_take']

theorem run_eqGuard_int {op : BinOp} {t : TypeId} {x y : Operand} {k k' : IntKind} {m n : Int} : (eqGuard op t x y (.int k m) (.int k' n)).run P w = .ok () w := by
  cases op <;> rfl
theorem run_eqGuard_str {op : BinOp} {t : TypeId} {x y : Operand} {m n : ByteArray} : (eqGuard op t x y (.string m) (.string n)).run P w = .ok () w := by
  cases op <;> rfl

theorem evInt_ok {op : BinOp} {k : IntKind} {m n : Int} {v : AV} {t : TypeId} (hs : op ≠ .shl) (hs' : op ≠ .shr) (he : evInt op k m n = some v) :
    ∃ y, (binOp op t (.int k m) (.int k n)).run P w = .ok y w ∧ VR w G v y ∧ tipOf v y = none := by
  cases op <;> simp only [evInt] at he <;> first
    | exact absurd rfl hs
    | exact absurd rfl hs'
    | (cases he; refine ⟨_, ?_, .c (.int _ _), rfl⟩; simp [binOp, Op.intArith]; done)
    | (cases he; refine ⟨_, ?_, .c (.int _ _), rfl⟩; simp [binOp, Op.intBits]; done)
    | (cases he; refine ⟨_, ?_, .c (.bool _), rfl⟩; simp [binOp, Op.intCmp]; done)
    | (split at he
       · cases he
       · rename_i hn
         cases he
         refine ⟨_, ?_, .c (.int _ _), rfl⟩
         simp [binOp, Op.intDiv, hn])
    | (cases he; done)

theorem evBin_ok {op : BinOp} {t : TypeId} {ox oy : Operand} {x y : AV} {xv yv : Value} {v : AV} (hx : VR w G x xv) (hy : VR w G y yv) (he : evBin op x y = some v) :
    ∃ z, (do eqGuard op t ox oy xv yv; binOp op t xv yv : Sem Value).run P w = .ok z w ∧ VR w G v z ∧ tipOf v z = none := by
  unfold evBin at he
  split at he
  · rename_i k m k' n
    have e1 := hx.int
    have e2 := hy.int
    subst e1; subst e2
    simp only [Sem.run_bind, run_eqGuard_int, Result.andThen_ok]
    split at he
    · split at he
      · cases he
      · rename_i hn
        cases he
        exact ⟨_, by simp [binOp, Op.shift, hn], .c (.int _ _), rfl⟩
    · split at he
      · cases he
      · rename_i hn
        cases he
        exact ⟨_, by simp [binOp, Op.shift, hn], .c (.int _ _), rfl⟩
    · rename_i h1 h2
      split at he
      · rename_i hk
        subst hk
        exact evInt_ok (fun e => h1 e) (fun e => h2 e) he
      · cases he
  · rename_i m n
    have e1 := hx.str
    have e2 := hy.str
    subst e1; subst e2
    simp only [Sem.run_bind, run_eqGuard_str, Result.andThen_ok]
    cases op <;> simp only [evStr] at he <;> first
      | (cases he; done)
      | (cases he; exact ⟨_, by simp only [binOp, Op.stringOp, ba_toList, Sem.run_pure], .c (.bool _), rfl⟩)
      | (split at he
         · rename_i hl
           cases he
           refine ⟨_, ?_, .c (.str _), rfl⟩
           have : ¬ (((ByteArray.mk ⟨m⟩).size + (ByteArray.mk ⟨n⟩).size : Nat) : Int) > IntKind.i64.max := by
             rw [ba_size, ba_size]
             have : IntKind.i64.max = 9223372036854775807 := by decide
             omega
           simp only [binOp, Op.stringOp, ba_append]
           rw [if_neg this]; rfl
         · cases he)
  · cases he

theorem evUn_ok {op : UnOp} {x : AV} {xv : Value} {v : AV} (hx : VR w G x xv) (he : evUn op x = some v) :
    ∃ z, (Op.unary op xv).run P w = .ok z w ∧ VR w G v z ∧ tipOf v z = none := by
  unfold evUn at he
  split at he
  · have := hx.int; subst this; cases he; exact ⟨_, rfl, .c (.int _ _), rfl⟩
  · have := hx.int; subst this; cases he; exact ⟨_, rfl, .c (.int _ _), rfl⟩
  · have := hx.bool; subst this; cases he; exact ⟨_, rfl, .c (.bool _), rfl⟩
  · cases he

/-- The kinds of the cells of a type whose values are compared cell by cell. -/
def plainAt (P : Program) : Nat → TypeId → Option (List CK)
  | 0, _ => none
  | m + 1, t =>
    match P.underlying t with
    | some .bool => if P.cellsOf t = 1 then some [.tb] else none
    | some (.int _) => if P.cellsOf t = 1 then some [.ti] else none
    | some .string => if P.cellsOf t = 1 then some [.ts] else none
    | some (.struct fs) => if P.stoodInHeld t then none else go (fun t => plainAt P m t) fs.toList 0
    | some (.array n e) => (plainAt P m e).bind fun ks => if ks.length = P.cellsOf e ∧ 0 < ks.length then some (List.replicate n ks).flatten else none
    | _ => none
  where
  go (rec : TypeId → Option (List CK)) : List Field → Nat → Option (List CK)
    | [], _ => some []
    | f :: fs, acc =>
      if f.name = "_" ∨ f.offset ≠ acc then none else
        (rec f.type).bind fun ks => if ks.length = P.cellsOf f.type ∧ 0 < ks.length then (go rec fs (acc + ks.length)).map fun r => ks ++ r else none

theorem eqCells_split : ∀ (k1 k2 : List CK) {xs ys : List AV} {b : Bool}, eqCells (k1 ++ k2) xs ys = some b →
    ∃ b1 b2, eqCells k1 (xs.take k1.length) (ys.take k1.length) = some b1 ∧ eqCells k2 (xs.drop k1.length) (ys.drop k1.length) = some b2 ∧ b = (b1 && b2)
  | [], k2, xs, ys, b, h => ⟨true, b, by simp [eqCells], by simpa using h, by simp⟩
  | k :: k1, k2, x :: xs, y :: ys, b, h => by
    simp only [List.cons_append, eqCells, Option.bind_eq_some_iff, Option.map_eq_some_iff] at h
    obtain ⟨b0, h0, c, hc, rfl⟩ := h
    obtain ⟨b1, b2, h1, h2, rfl⟩ := eqCells_split k1 k2 hc
    exact ⟨b0 && b1, b2, by simp [eqCells, h0, h1], by simpa using h2, by rw [Bool.and_assoc]⟩
  | k :: k1, k2, [], ys, b, h => by simp [eqCells] at h
  | k :: k1, k2, x :: xs, [], b, h => by simp [eqCells] at h

theorem eqCells_len : ∀ {ks : List CK} {xs ys : List AV} {b : Bool}, eqCells ks xs ys = some b → xs.length = ks.length ∧ ys.length = ks.length
  | [], [], [], _, _ => ⟨rfl, rfl⟩
  | k :: ks, x :: xs, y :: ys, b, h => by
    simp only [eqCells, Option.bind_eq_some_iff, Option.map_eq_some_iff] at h
    obtain ⟨b0, h0, c, hc, rfl⟩ := h
    have := eqCells_len hc
    simp [this.1, this.2]
  | [], _ :: _, _, _, h => by simp [eqCells] at h
  | [], [], _ :: _, _, h => by simp [eqCells] at h
  | _ :: _, [], _, _, h => by simp [eqCells] at h
  | _ :: _, _ :: _, [], _, h => by simp [eqCells] at h

/-- The value of a type with these cells. -/
def valOf (P : Program) (t : TypeId) (xs : List Value) : Value :=
  match (P.underlying t).map isAggD with
  | some true => .agg ⟨xs⟩
  | _ => xs.headD undef

def EqOK (P : Program) (D : Nat) (t : TypeId) (ks : List CK) : Prop :=
  ∀ (w : World) (G : Gh) (as bs : List AV) (xs ys : List Value) (b : Bool), VRs w G as xs → VRs w G bs ys → eqCells ks as bs = some b →
    (Op.equalIn D t (valOf P t xs) (valOf P t ys)).run P w = .ok b w

theorem run_partOf {t : TypeId} {d : TypeDesc} {i : TypeInfo} (hd : P.underlying t = some d) (hi : P.info? t = some i) {xs : List Value} {off : Nat} (hl : off + i.size ≤ xs.length) (h1 : isAggD d = false → i.size = 1) :
    (part t ⟨xs⟩ off).run P w = .ok (valOf P t ((xs.drop off).take i.size)) w := by
  simp only [part, Sem.run_bind, run_isAgg P hd, Result.andThen_ok, valOf, hd, Option.map_some]
  cases ha : isAggD d with
  | true =>
    simp only [if_true, Sem.run_bind, run_sizeOf P hi, Result.andThen_ok, Sem.run_pure]
    congr 2
    simp
  | false =>
    have := h1 ha
    simp only [Bool.false_eq_true, if_false]
    have hlt : off < xs.length := by omega
    have e : (xs.drop off).take i.size = [xs[off]] := by
      rw [this, List.drop_eq_getElem_cons hlt, List.take_succ_cons, List.take_zero]
    rw [e]
    simp [hlt]

def ckD : CK → TypeDesc → Bool
  | .tb, .bool => true
  | .ti, .int _ => true
  | .ts, .string => true
  | _, _ => false

theorem eqOK_scalar {t : TypeId} {D : Nat} {k : CK} {d : TypeDesc} (hu : P.underlying t = some d) (hk : ckD k d = true) : EqOK P (D + 1) t [k] := by
  intro w G as bs xs ys b ha hb he
  match as, bs, he with
  | [x], [y], he =>
    simp only [eqCells, Option.bind_eq_some_iff, Option.map_eq_some_iff] at he
    obtain ⟨b0, h0, c, hc, rfl⟩ := he
    cases hc
    obtain _ | ⟨hx, t1⟩ := ha
    cases t1
    obtain _ | ⟨hy, t2⟩ := hb
    cases t2
    rw [Bool.and_true]
    cases k with
    | tb =>
      cases d <;> simp only [ckD, Bool.false_eq_true] at hk
      cases x <;> cases y <;> simp only [scalarEq, Option.some.injEq, reduceCtorEq] at h0
      have := hx.bool; subst this
      have := hy.bool; subst this
      subst h0
      simp only [valOf, hu, Option.map_some, isAggD, List.headD_cons]
      exact run_equalIn_bool' _ _ _ _ _ hu
    | ti =>
      cases d <;> simp only [ckD, Bool.false_eq_true] at hk
      cases x <;> cases y <;> simp only [scalarEq, reduceCtorEq] at h0
      have := hx.int; subst this
      have := hy.int; subst this
      split at h0
      · rename_i hk
        subst hk
        cases h0
        simp only [valOf, hu, Option.map_some, isAggD, List.headD_cons]
        exact run_equalIn_int _ _ _ _ _ _ _ hu
      · cases h0
    | ts =>
      cases d <;> simp only [ckD, Bool.false_eq_true] at hk
      cases x <;> cases y <;> simp only [scalarEq, Option.some.injEq, reduceCtorEq] at h0
      have := hx.str; subst this
      have := hy.str; subst this
      subst h0
      simp only [valOf, hu, Option.map_some, isAggD, List.headD_cons]
      rw [run_equalIn_string _ _ _ _ _ hu, ba_toList, ba_toList]
  | [], _, he => simp [eqCells] at he
  | _ :: _ :: _, [], he => simp [eqCells] at he
  | _ :: _ :: _, [_], he => simp [eqCells] at he
  | _ :: _ :: _, _ :: _ :: _, he => simp [eqCells] at he
  | [_], [], he => simp [eqCells] at he
  | [_], _ :: _ :: _, he => simp [eqCells] at he

theorem VRs.takeN {w : World} {G : Gh} {a : List AV} {xs : List Value} (h : VRs w G a xs) (n m : Nat) : VRs w G ((a.drop n).take m) ((xs.drop n).take m) := (h.drop n).take m

theorem cellsOf_info {t : TypeId} {n : Nat} (h : P.cellsOf t = n) (hn : 0 < n) : ∃ i, P.info? t = some i ∧ i.size = n := by
  unfold Program.cellsOf at h
  cases hi : P.info? t with
  | none => rw [hi] at h; simp at h; omega
  | some i => rw [hi] at h; exact ⟨i, rfl, by simpa using h⟩

/-- A field or an element, compared. -/
theorem eq_step {D : Nat} {t : TypeId} {ks : List CK} (ih : EqOK P D t ks) (hd : ∃ d, P.underlying t = some d ∧ (isAggD d = false → ks.length = 1)) (hk : ks.length = P.cellsOf t) (hz : 0 < ks.length) {as bs : List AV} {xs ys : List Value} {b : Bool}
    {off : Nat} (ha : VRs w G as xs) (hb : VRs w G bs ys) (he : eqCells ks ((as.drop off).take ks.length) ((bs.drop off).take ks.length) = some b) :
    ∃ x y, (part t ⟨xs⟩ off).run P w = .ok x w ∧ (part t ⟨ys⟩ off).run P w = .ok y w ∧ (Op.equalIn D t x y).run P w = .ok b w := by
  obtain ⟨d, hu, h1⟩ := hd
  obtain ⟨i, hi, hs⟩ := cellsOf_info hk.symm hz
  have hl := eqCells_len he
  have la : off + i.size ≤ xs.length := by rw [← ha.length, hs]; have := hl.1; simp at this; omega
  have lb : off + i.size ≤ ys.length := by rw [← hb.length, hs]; have := hl.2; simp at this; omega
  refine ⟨_, _, run_partOf hu hi la (fun h => by rw [hs]; exact h1 h), run_partOf hu hi lb (fun h => by rw [hs]; exact h1 h), ?_⟩
  rw [hs]
  exact ih w G _ _ _ _ b (ha.takeN _ _) (hb.takeN _ _) he

def Good (P : Program) (t : TypeId) (ks : List CK) : Prop := (∃ d, P.underlying t = some d ∧ (isAggD d = false → ks.length = 1))

theorem eqFields_ok {D : Nat} {rec : TypeId → Option (List CK)} (ih : ∀ t ks, rec t = some ks → EqOK P D t ks ∧ Good P t ks) {as bs : List AV} {xs ys : List Value} (ha : VRs w G as xs) (hb : VRs w G bs ys) :
    ∀ (fs : List Field) (acc : Nat) (ks : List CK) (b : Bool), plainAt.go P rec fs acc = some ks → eqCells ks (as.drop acc) (bs.drop acc) = some b → (Op.eqFields D ⟨xs⟩ ⟨ys⟩ fs).run P w = .ok b w
  | [], acc, ks, b, hg, he => by
    simp only [plainAt.go, Option.some.injEq] at hg
    subst hg
    have := eqCells_len he
    rw [List.length_eq_zero_iff.1 this.1, List.length_eq_zero_iff.1 this.2] at he
    cases he
    simp [Op.eqFields]
  | f :: fs, acc, ks, b, hg, he => by
    simp only [plainAt.go] at hg
    split at hg
    · cases hg
    · rename_i hn
      have hn1 : f.name ≠ "_" := fun e => hn (.inl e)
      have hn2 : f.offset = acc := Classical.byContradiction fun e => hn (.inr e)
      simp only [Option.bind_eq_some_iff] at hg
      obtain ⟨k1, h1, hg⟩ := hg
      split at hg
      · rename_i hk
        simp only [Option.map_eq_some_iff] at hg
        obtain ⟨k2, h2, rfl⟩ := hg
        obtain ⟨b1, b2, e1, e2, rfl⟩ := eqCells_split k1 k2 he
        obtain ⟨i1, i2⟩ := ih _ _ h1
        simp only [Op.eqFields, hn1, ne_eq, not_false_eq_true, if_true, Sem.run_bind]
        rw [List.drop_drop, List.drop_drop] at e2
        have rest := eqFields_ok ih ha hb fs (acc + k1.length) k2 b2 h2 e2
        obtain ⟨x, y, p1, p2, p3⟩ := eq_step i1 i2 hk.1 hk.2 ha hb (off := f.offset) (by rw [hn2]; exact e1)
        simp only [p1, p2, p3, Result.andThen_ok]
        cases b1
        · simp
        · simpa using rest
      · cases hg

theorem eqItems_ok {D : Nat} {e : TypeId} {k1 : List CK} (i1 : EqOK P D e k1) (i2 : Good P e k1) (hk : k1.length = P.cellsOf e) (hz : 0 < k1.length) {as bs : List AV} {xs ys : List Value} (ha : VRs w G as xs) (hb : VRs w G bs ys) :
    ∀ (n j : Nat) (b : Bool), eqCells (List.replicate n k1).flatten (as.drop (j * k1.length)) (bs.drop (j * k1.length)) = some b → (Op.eqItems D e (P.cellsOf e) ⟨xs⟩ ⟨ys⟩ (List.range' j n)).run P w = .ok b w
  | 0, j, b, he => by
    have := eqCells_len he
    simp only [List.replicate_zero, List.flatten_nil, List.length_nil] at this he
    rw [List.length_eq_zero_iff.1 this.1, List.length_eq_zero_iff.1 this.2] at he
    cases he
    simp [Op.eqItems]
  | n + 1, j, b, he => by
    rw [List.replicate_succ, List.flatten_cons] at he
    obtain ⟨b1, b2, e1, e2, rfl⟩ := eqCells_split k1 _ he
    rw [List.drop_drop, List.drop_drop, show j * k1.length + k1.length = (j + 1) * k1.length by rw [Nat.succ_mul]] at e2
    have rest := eqItems_ok i1 i2 hk hz ha hb n (j + 1) b2 e2
    obtain ⟨x, y, p1, p2, p3⟩ := eq_step i1 i2 hk hz ha hb e1
    rw [hk] at p1 p2
    simp only [List.range'_succ, Op.eqItems, Sem.run_bind, p1, p2, p3, Result.andThen_ok]
    cases b1
    · simp
    · simpa using rest

theorem plain_ok : ∀ (m : Nat) (D : Nat) (t : TypeId) (ks : List CK), m ≤ D → plainAt P m t = some ks → EqOK P D t ks ∧ Good P t ks
  | 0, _, _, _, _, h => by simp [plainAt] at h
  | m + 1, 0, _, _, hD, _ => by omega
  | m + 1, D + 1, t, ks, hD, h => by
    unfold plainAt at h
    split at h
    · rename_i hu
      split at h
      · cases h; exact ⟨eqOK_scalar hu rfl, _, hu, fun _ => rfl⟩
      · cases h
    · rename_i hu
      split at h
      · cases h; exact ⟨eqOK_scalar hu rfl, _, hu, fun _ => rfl⟩
      · cases h
    · rename_i hu
      split at h
      · cases h; exact ⟨eqOK_scalar hu rfl, _, hu, fun _ => rfl⟩
      · cases h
    · rename_i fs hu
      split at h
      · cases h
      · rename_i hst
        refine ⟨?_, _, hu, by simp [isAggD]⟩
        intro w G as bs xs ys b ha hb he
        have hf : P.fieldsOf t = fs := by simp [Program.fieldsOf, hu]
        have v1 : valOf P t xs = .agg ⟨xs⟩ := by simp [valOf, hu, isAggD]
        have v2 : valOf P t ys = .agg ⟨ys⟩ := by simp [valOf, hu, isAggD]
        rw [v1, v2, run_equalIn_struct w D t _ _ (by rw [hf]; exact hu) (by simpa using hst), hf]
        exact eqFields_ok (fun t' ks' h' => plain_ok m D t' ks' (by omega) h') ha hb fs.toList 0 ks b h (by simpa using he)
    · rename_i n e hu
      simp only [Option.bind_eq_some_iff] at h
      obtain ⟨k1, h1, h⟩ := h
      split at h
      · rename_i hk
        cases h
        obtain ⟨i1, i2⟩ := plain_ok m D e k1 (by omega) h1
        refine ⟨?_, _, hu, by simp [isAggD]⟩
        intro w G as bs xs ys b ha hb he
        have v1 : valOf P t xs = .agg ⟨xs⟩ := by simp [valOf, hu, isAggD]
        have v2 : valOf P t ys = .agg ⟨ys⟩ := by simp [valOf, hu, isAggD]
        obtain ⟨i, hi, _⟩ := cellsOf_info hk.1.symm hk.2
        rw [v1, v2, run_equalIn_array w D _ _ hu hi, List.range_eq_range']
        exact eqItems_ok i1 i2 hk.1 hk.2 ha hb n 0 b (by simpa using he)
      · cases h
    · cases h

end Go.Proofs.YteaopgkajbfkeaaGreatDoor
namespace Go.Proofs.YteaopgkajbfkeaaGreatDoor
open Go Go.RowKit

variable {Gl : Nat → Option (List AV)} {base : Nat} {F : Fr} {w : World} {G : Gh} {sl : List AV} {h : Store} {a : Act} {P : Program}

/-- A result that turns no memory: the model's value is the evaluator's, and has no spare places. -/
def Gives (P : Program) (w : World) (G : Gh) (m : Sem Value) (v : AV) : Prop := ∃ y, m.run P w = .ok y w ∧ VR w G v y ∧ tipOf v y = none

def isConstOp : Operand → Bool
  | .const _ => true
  | _ => false

def eqB (P : Program) (t : TypeId) (k : EqK) (y : Operand) : Bool :=
  match k, P.underlying t with
  | .bool, some .bool => true
  | .ptr, some (.pointer _) => true
  | .slice, some (.slice _) => true
  | .func, some (.func ..) => true
  | .iface, some (.interface _) => isConstOp y
  | .plain ks, some (.struct _) => decide (plainAt P 12 t = some ks) && !P.eqGuardType P.depth t
  | .plain ks, some (.array ..) => decide (plainAt P 12 t = some ks) && !P.eqGuardType P.depth t
  | _, _ => false

theorem equal_unfold (t : TypeId) (x y : Value) : Op.equal t x y = Op.equalIn (9999 + 1) t x y := rfl

section eqIn
variable (d : Nat) {t : TypeId}
theorem eqIn_np {e : TypeId} (b : Option Addr) (hu : P.underlying t = some (.pointer e)) : (Op.equalIn (d + 1) t (.pointer none) (.pointer b)).run P w = .ok b.isNone w := by simp [Op.equalIn, underlying, hu]
theorem eqIn_pn {e : TypeId} (b : Addr) (hu : P.underlying t = some (.pointer e)) : (Op.equalIn (d + 1) t (.pointer (some b)) (.pointer none)).run P w = .ok false w := by simp [Op.equalIn, underlying, hu]
theorem eqIn_ns {e : TypeId} (hu : P.underlying t = some (.slice e)) : (Op.equalIn (d + 1) t (.slice none 0 0) (.slice none 0 0)).run P w = .ok true w := by simp [Op.equalIn, underlying, hu]
theorem eqIn_sn {e : TypeId} (b : Addr) (l c : Nat) (hu : P.underlying t = some (.slice e)) : (Op.equalIn (d + 1) t (.slice (some b) l c) (.slice none 0 0)).run P w = .ok false w := by simp [Op.equalIn, underlying, hu]
theorem eqIn_nf {p r : Array TypeId} {v : Bool} (hu : P.underlying t = some (.func p r v)) : (Op.equalIn (d + 1) t .nilFunc .nilFunc).run P w = .ok true w := by simp [Op.equalIn, underlying, hu]
theorem eqIn_fn {p r : Array TypeId} {v : Bool} (f : Fn) (x y : Array Value) (hu : P.underlying t = some (.func p r v)) : (Op.equalIn (d + 1) t (.func f x y) .nilFunc).run P w = .ok false w := by simp [Op.equalIn, underlying, hu]
theorem eqIn_ni {m : Array (String × TypeId)} (hu : P.underlying t = some (.interface m)) : (Op.equalIn (d + 1) t .nilIface .nilIface).run P w = .ok true w := by simp [Op.equalIn, underlying, hu]
theorem eqIn_in {m : Array (String × TypeId)} (u : TypeId) (x : Value) (hu : P.underlying t = some (.interface m)) : (Op.equalIn (d + 1) t (.iface u x) .nilIface).run P w = .ok false w := by simp [Op.equalIn, underlying, hu]
end eqIn

theorem binOp_eq {t : TypeId} {x y : Value} (neg : Bool) {b : Bool} (hx : ∀ k n, x ≠ .int k n) (hf : ∀ k n, x ≠ .float k n) (hc : ∀ k n m, x ≠ .complex k n m) (hs : ∀ s, x ≠ .string s)
    (he : (Op.equal t x y).run P w = .ok b w) : (binOp (if neg then .neq else .eql) t x y).run P w = .ok (.bool (if neg then !b else b)) w := by
  cases neg
  · have : binOp .eql t x y = (do pure (.bool (← Op.equal t x y))) := by
      unfold binOp
      split <;> first | rfl | (exfalso; first | exact hx _ _ rfl | exact hf _ _ rfl | exact hc _ _ _ rfl | exact hs _ rfl | contradiction) | simp_all
    simp only [Bool.false_eq_true, if_false, this, Sem.run_bind, he, Result.andThen_ok, Sem.run_pure]
  · have : binOp .neq t x y = (do pure (.bool (!(← Op.equal t x y)))) := by
      unfold binOp
      split <;> first | rfl | (exfalso; first | exact hx _ _ rfl | exact hf _ _ rfl | exact hc _ _ _ rfl | exact hs _ rfl | contradiction) | simp_all
    simp only [if_true, this, Sem.run_bind, he, Result.andThen_ok, Sem.run_pure]

theorem evEq_ok {neg : Bool} {t : TypeId} {k : EqK} {ox oy : Operand} {x y : AV} {xv yv : Value} {b : Bool} (hk : eqB P t k oy = true) (hx : VR w G x xv) (hy : VR w G y yv) (he : evEq k x y = some b) :
    Gives P w G (do eqGuard (if neg then .neq else .eql) t ox oy xv yv; binOp (if neg then .neq else .eql) t xv yv : Sem Value) (.bool (if neg then !b else b)) := by
  have key : (eqGuard (if neg then .neq else .eql) t ox oy xv yv).run P w = .ok () w ∧ (Op.equal t xv yv).run P w = .ok b w ∧
      (∀ k n, xv ≠ .int k n) ∧ (∀ k n, xv ≠ .float k n) ∧ (∀ k n m, xv ≠ .complex k n m) ∧ (∀ s, xv ≠ .string s) := by
    unfold evEq at he
    split at he
    · have := hx.bool; subst this
      have := hy.bool; subst this
      cases he
      unfold eqB at hk
      split at hk <;> first | contradiction | skip
      rename_i hu
      refine ⟨by cases neg <;> rfl, run_equal_bool _ _ _ _ hu, by simp, by simp, by simp, by simp⟩
    · have := hx.nilp; subst this
      have := hy.nilp; subst this
      cases he
      unfold eqB at hk
      split at hk <;> first | contradiction | skip
      rename_i hu
      refine ⟨by cases neg <;> rfl, eqIn_np 9999 none hu, by simp, by simp, by simp, by simp⟩
    · have := hx.nilp; subst this
      obtain ⟨r, e, _⟩ := hy.refs; subst e
      cases he
      unfold eqB at hk
      split at hk <;> first | contradiction | skip
      rename_i hu
      refine ⟨by cases neg <;> rfl, eqIn_np 9999 (some _) hu, by simp, by simp, by simp, by simp⟩
    · have := hy.nilp; subst this
      obtain ⟨r, e, _⟩ := hx.refs; subst e
      cases he
      unfold eqB at hk
      split at hk <;> first | contradiction | skip
      rename_i hu
      refine ⟨by cases neg <;> rfl, eqIn_pn 9999 _ hu, by simp, by simp, by simp, by simp⟩
    · have := hx.nils; subst this
      have := hy.nils; subst this
      cases he
      unfold eqB at hk
      split at hk <;> first | contradiction | skip
      rename_i hu
      refine ⟨by cases neg <;> rfl, eqIn_ns 9999 hu, by simp, by simp, by simp, by simp⟩
    · have := hy.nils; subst this
      obtain ⟨xs, k, o, sp, cap, e, _⟩ := hx.slc.sls; subst e
      cases he
      unfold eqB at hk
      split at hk <;> first | contradiction | skip
      rename_i hu
      refine ⟨by cases neg <;> rfl, eqIn_sn 9999 _ _ _ hu, by simp, by simp, by simp, by simp⟩
    · have := hy.nils; subst this
      obtain ⟨xs, k, o, sp, cap, e, _⟩ := hx.gslc.sls; subst e
      cases he
      unfold eqB at hk
      split at hk <;> first | contradiction | skip
      rename_i hu
      refine ⟨by cases neg <;> rfl, eqIn_sn 9999 _ _ _ hu, by simp, by simp, by simp, by simp⟩
    · have := hy.nils; subst this
      obtain ⟨ad, cap', e, _⟩ := hx.osls; subst e
      cases he
      unfold eqB at hk
      split at hk <;> first | contradiction | skip
      rename_i hu
      refine ⟨by cases neg <;> rfl, eqIn_sn 9999 _ _ _ hu, by simp, by simp, by simp, by simp⟩
    · have := hx.nilf; subst this
      have := hy.nilf; subst this
      cases he
      unfold eqB at hk
      split at hk <;> first | contradiction | skip
      rename_i hu
      refine ⟨by cases neg <;> rfl, eqIn_nf 9999 hu, by simp, by simp, by simp, by simp⟩
    · have := hy.nilf; subst this
      obtain ⟨xs, ys, e, _⟩ := hx.fns; subst e
      cases he
      unfold eqB at hk
      split at hk <;> first | contradiction | skip
      rename_i hu
      refine ⟨by cases neg <;> rfl, eqIn_fn 9999 _ _ _ hu, by simp, by simp, by simp, by simp⟩
    · have := hx.nili; subst this
      have := hy.nili; subst this
      cases he
      unfold eqB at hk
      split at hk <;> first | contradiction | skip
      rename_i hu
      have hc : isConstOp oy = true := hk
      refine ⟨?_, eqIn_ni 9999 hu, by simp, by simp, by simp, by simp⟩
      cases oy <;> first | cases hc | skip
      cases neg <;> simp [eqGuard]
    · have := hy.nili; subst this
      obtain ⟨z, e, _⟩ := hx.ifaces; subst e
      cases he
      unfold eqB at hk
      split at hk <;> first | contradiction | skip
      rename_i hu
      refine ⟨by cases neg <;> rfl, eqIn_in 9999 _ _ hu, by simp, by simp, by simp, by simp⟩
    · rename_i ks cs ds
      obtain ⟨xs, e1, h1, _⟩ := hx.aggs
      obtain ⟨ys, e2, h2, _⟩ := hy.aggs
      subst e1; subst e2
      have : plainAt P 12 t = some ks ∧ P.eqGuardType P.depth t = false ∧ (∃ d, P.underlying t = some d ∧ isAggD d = true) := by
        unfold eqB at hk
        split at hk <;> first | contradiction | skip
        · rename_i hk2 hu; cases hk2; simp at hk; exact ⟨hk.1, hk.2, _, hu, rfl⟩
        · rename_i hk2 hu; cases hk2; simp at hk; exact ⟨hk.1, hk.2, _, hu, rfl⟩
      obtain ⟨p1, p2, d, hu, hd⟩ := this
      have v1 : ∀ zs, valOf P t zs = .agg ⟨zs⟩ := fun zs => by simp [valOf, hu, hd]
      have := (plain_ok 12 10000 t ks (by omega) p1).1 w G cs ds xs ys b h1 h2 he
      rw [v1, v1] at this
      refine ⟨run_eqGuard_agg _ _ _ _ _ _ _ p2, this, by simp, by simp, by simp, by simp⟩
    · cases he
  obtain ⟨k1, k2, k3, k4, k5, k6⟩ := key
  refine ⟨.bool (if neg then !b else b), ?_, .c (.bool _), rfl⟩
  rw [Sem.run_bind, k1, Result.andThen_ok]
  exact binOp_eq neg k3 k4 k5 k6 k2

end Go.Proofs.YteaopgkajbfkeaaGreatDoor
namespace Go.Proofs.YteaopgkajbfkeaaGreatDoor
open Go Go.RowKit

variable {Gl : Nat → Option (List AV)} {base : Nat} {F : Fr} {w : World} {G : Gh} {sl : List AV} {h : Store} {a : Act} {P : Program} {tmps : Array Value}

theorem one_cells {v : AV} (h : v.one = true) : v.cells = [v] := by cases v <;> simp_all [AV.one, AV.cells]

theorem chunks_spec (ag : Bool) (esz : Nat) (hz : 0 < esz) (h1 : ag = false → esz = 1) : ∀ (n : Nat) (cs : List AV), n * esz ≤ cs.length → cs.all AV.one = true →
    (chunks ag esz n cs).length = n ∧ (chunks ag esz n cs).flatMap AV.cells = cs.take (n * esz) ∧ (∀ v ∈ chunks ag esz n cs, v.cells.length = esz)
  | 0, cs, _, _ => by simp [chunks]
  | n + 1, cs, hl, ho => by
    rw [Nat.succ_mul] at hl
    obtain ⟨i1, i2, i3⟩ := chunks_spec ag esz hz h1 n (cs.drop esz) (by simp; omega) (by
      simp only [List.all_eq_true] at *; exact fun x hx => ho x (List.mem_of_mem_drop hx))
    have hc : (if ag then AV.agg (cs.take esz) else cs.headD .any).cells = cs.take esz := by
      cases ag with
      | true => simp [AV.cells]
      | false =>
        have := h1 rfl
        subst this
        cases cs with
        | nil => simp at hl
        | cons c cs =>
          simp only [List.all_cons, Bool.and_eq_true] at ho
          simp [one_cells ho.1]
    refine ⟨by simp [chunks, i1], ?_, ?_⟩
    · simp only [chunks, List.flatMap_cons, hc, i2]
      rw [Nat.succ_mul, Nat.add_comm, List.take_add]
    · intro v hv
      simp only [chunks, List.mem_cons] at hv
      rcases hv with rfl | hv
      · rw [hc]; simp; omega
      · exact i3 v hv

/-- A slice's elements, and where they lie. -/
structure ElemsR (w : World) (G : Gh) (esz : Nat) (vs : List AV) (ad : Option Addr) (xs : List Value) : Prop where
  vals : VRs w G (vs.flatMap AV.cells) xs
  one : (vs.flatMap AV.cells).all AV.one = true
  esz : ∀ v ∈ vs, v.cells.length = esz
  none : ad = none → vs = []
  some : ∀ k, ad = some k → (k.spot = Option.none ∨ vs = []) ∧ ∀ (j : Nat) x, xs[j]? = Option.some x → w.cell? ⟨k.block, k.off + j, Option.none⟩ = Option.some x

theorem elems_ok (s : SR Gl base F w G tmps sl h) {v : AV} {x : Value} {vs : List AV} {esz : Nat} (hv : VR w G v x) (he : elems h v = some vs) (hz : eszIs h esz v = true) :
    ∃ ad cap xs, x = .slice ad vs.length cap ∧ ElemsR w G esz vs ad xs := by
  have rd : ∀ {e : Nat} {us : List AV}, VC w G (.sl e us) x → e = esz → ∃ ad cap xs, x = .slice ad us.length cap ∧ ElemsR w G esz us ad xs := by
    intro e us hc hee
    subst hee
    obtain ⟨xs, k, o, sp, cap, rfl, hz, hcap, hl, ho, hr, hv, hs⟩ := hc.sls
    exact ⟨_, cap, xs, rfl, hv.toVRs, ho, hl, by simp, fun k' e => by cases e; exact ⟨hs.imp id (fun h => List.length_eq_zero_iff.1 (by omega)), fun j x hx => (hr j x hx).1⟩⟩
  cases v <;> simp only [elems, eszIs, Option.some.injEq, reduceCtorEq, beq_iff_eq] at he hz
  case nils => subst he; have := hv.nils; subst this; exact ⟨none, 0, [], rfl, .nil, rfl, by simp, by simp, by simp⟩
  case sl e us => subst he; exact rd hv.slc hz
  case gsl e us => subst he; exact rd hv.gslc hz
  case osl b off len cap =>
    obtain ⟨ad, cap', rfl, hs, hl, hc, ha⟩ := hv.osls
    cases hb : getB h b with
    | none => rw [hb] at he; cases he
    | some blk =>
      rw [hb] at he hz
      simp only [beq_iff_eq] at hz
      subst hz
      simp only at he
      split at he
      · rename_i hfit
        cases he
        rcases Nat.eq_zero_or_pos cap with hc0 | hcap
        · subst hc0
          obtain rfl : len = 0 := by omega
          exact ⟨some ad, cap', [], rfl, .nil, rfl, by simp [chunks], by simp [chunks], fun k e => by cases e; exact ⟨.inl hs, fun j x hx => by simp at hx⟩⟩
        obtain ⟨r, hr', rfl⟩ := ha hcap
        obtain ⟨ys, B⟩ := s.mem.blk b blk r (getB_some hb).1 hr'
        obtain ⟨el, sp, hrow⟩ := B.row
        have hone : (blk.cells.drop off).all AV.one = true := by
          have := B.one
          simp only [List.all_eq_true] at *; exact fun x hx => this x (List.mem_of_mem_drop hx)
        obtain ⟨c1, c2, c3⟩ := chunks_spec blk.ag blk.esz B.esz.1 B.esz.2 len (blk.cells.drop off) (by simp; omega) hone
        refine ⟨_, cap', (ys.drop off).take (len * blk.esz), by rw [c1], ?_, ?_, c3, by simp, ?_⟩
        · rw [c2]; exact (B.vals.drop off).take _
        · rw [c2]; exact all_sub B.one _ _
        · intro k e
          cases e
          refine ⟨.inl rfl, fun j x hx => ?_⟩
          have hj : j < len * blk.esz := by
            rcases Nat.lt_or_ge j (len * blk.esz) with hj | hj
            · exact hj
            · rw [List.getElem?_eq_none (by simp; omega)] at hx; cases hx
          rw [List.getElem?_take_of_lt hj, List.getElem?_drop] at hx
          rw [cell_row hrow]; exact get_left hx
      · cases he

def convB (P : Program) (src dst : TypeId) (c : PConv) : Bool :=
  match c, P.underlying src, P.underlying dst with
  | .int k, some (.int _), some (.int k') => decide (k = k')
  | .same, some .string, some .string => true
  | .bytesStr, some (.slice e), some .string => (match P.underlying e with | some (.int .u8) => true | _ => false)
  | _, _, _ => false

theorem bytesOf_spec : ∀ {vs : List AV} {l : List UInt8}, bytesOf vs = some l → vs = l.map fun b => AV.int .u8 (b.toNat : Int)
  | [], l, h => by simp only [bytesOf, Option.some.injEq] at h; subst h; rfl
  | v :: vs, l, h => by
    unfold bytesOf at h
    split at h
    · rename_i e; cases e
    · rename_i n r e
      cases e
      split at h
      · rename_i hn
        simp only [Option.map_eq_some_iff] at h
        obtain ⟨s, hs, rfl⟩ := h
        rw [bytesOf_spec hs]
        simp only [List.map_cons]
        congr 2
        simp only [UInt8.toNat_ofNat']
        omega
      · cases h
    · cases h

theorem flat_bytes : ∀ l : List UInt8, (l.map fun b => AV.int .u8 (b.toNat : Int)).flatMap AV.cells = l.map fun b => AV.int .u8 (b.toNat : Int)
  | [] => rfl
  | b :: l => by rw [List.map_cons, List.flatMap_cons, flat_bytes l]; rfl

theorem evConv_ok (s : SR Gl base F w G tmps sl h) {src dst : TypeId} {c : PConv} {x : AV} {xv : Value} {v : AV} (hc : convB P src dst c = true) (hx : VR w G x xv) (he : evConv h c x = some v) :
    Gives P w G (convert src dst xv) v := by
  unfold convB at hc
  split at hc
  · rename_i k k1 k2 h1 h2
    simp at hc
    subst hc
    cases x <;> simp only [evConv, Option.some.injEq, reduceCtorEq] at he
    subst he
    have := hx.int; subst this
    refine ⟨_, ?_, .c (.int _ _), rfl⟩
    simp [convert, underlying, h1, h2, Conv.intToInt]
  · rename_i h1 h2
    cases x <;> simp only [evConv, Option.some.injEq, reduceCtorEq] at he
    subst he
    have := hx.str; subst this
    refine ⟨_, ?_, .c (.str _), rfl⟩
    simp [convert, underlying, h1, h2]
  · rename_i e h1 h2
    split at hc
    · rename_i h3
      have he' : (if eszIs h 1 x = true then Option.map AV.str ((elems h x).bind bytesOf) else none) = some v := by
        cases x <;> exact he
      split at he'
      · rename_i hz
        simp only [Option.map_eq_some_iff, Option.bind_eq_some_iff] at he'
        obtain ⟨l, ⟨vs, hvs, hl⟩, rfl⟩ := he'
        obtain ⟨ad, cap, xs, rfl, E⟩ := elems_ok s hx hvs hz
        have hvs' := bytesOf_spec hl
        refine ⟨.string ⟨⟨l⟩⟩, ?_, .c (.str _), rfl⟩
        cases ad with
        | none =>
          have := E.none rfl
          subst this
          cases l with
          | nil => simp [convert, underlying, h1, h2, h3, Conv.bytesToString]; rfl
          | cons b l => simp at hvs'
        | some k =>
          obtain ⟨hs, hr⟩ := E.some k rfl
          have hlen : vs.length = l.length := by rw [hvs']; simp
          have := run_convert_bytes_back (P := P) w src dst e k cap l h1 h3 h2 (by
            intro j hj
            replace hs := hs.resolve_right (fun h => by rw [h] at hlen; simp at hlen; omega)
            obtain ⟨kb, ko, ks⟩ := k
            simp only at hs
            subst hs
            rw [add_none]
            have hflat : vs.flatMap AV.cells = vs := by
              rw [hvs']; exact flat_bytes l
            have hv := E.vals
            rw [hflat, hvs'] at hv
            obtain ⟨y, hy, hyv⟩ := hv.get (j := j) (v := .int .u8 (l[j].toNat : Int)) (by simp [hj])
            have := hyv.int
            subst this
            exact hr j _ hy)
          rw [hlen]
          exact this
      · cases he'
    · cases hc
  · cases hc

def optB : Option Operand → Option POpd → Bool
  | none, none => true
  | some o, some p => opdB o p
  | _, _ => false

theorem asIdx_ok {x : AV} {xv : Value} {m : Nat} (hx : VR w G x xv) (h : asIdx x = some m) : ∃ k n, xv = .int k n ∧ 0 ≤ n ∧ n.toNat = m := by
  cases x <;> simp only [asIdx, reduceCtorEq] at h
  rename_i k n
  split at h
  · rename_i h0
    cases h
    exact ⟨k, n, hx.int, h0, rfl⟩
  · cases h

theorem run_sliceBound {k : IntKind} {n : Int} {y : Nat} {c : BoundsCode} (h0 : 0 ≤ n) (hy : n.toNat ≤ y) : (Instr.sliceBound (.int k n) y c).run P w = .ok n.toNat w := by
  simp [Instr.sliceBound, asIntOf, show 0 ≤ n ∧ n ≤ (y : Int) by omega]

/-- A slicing's bounds, in the model: the room may be greater than the evaluator knows. -/
theorem bounds_ok (s : SR Gl base F w G a.tmps sl h) {len cap cap' : Nat} {lo hi mx : Option POpd} {lo' hi' mx' : Option Operand} {l n m : Nat} (isS : Bool) (h1 : optB lo' lo = true) (h2 : optB hi' hi = true) (h3 : optB mx' mx = true)
    (hmx : mx.isSome → hi.isSome) (hc : cap ≤ cap') (hl : len ≤ cap) (he : bounds sl len cap lo hi mx = some (l, n, m)) :
    ∃ m', (Instr.sliceBounds isS len cap' (lo'.map a.eval) (hi'.map a.eval) (mx'.map a.eval)).run P w = .ok (l, n, m') w ∧ l ≤ n ∧ n ≤ m ∧ m ≤ m' ∧ (mx.isSome → m' = m) ∧ m ≤ cap ∧ m' ≤ cap' := by
  simp only [bounds, Option.bind_eq_some_iff, Option.map_eq_some_iff] at he
  obtain ⟨m0, hm, n0, hn, l0, hlo, e⟩ := he
  cases e
  have K : ∀ {p : Option POpd} {o : Option Operand} {d y r : Nat}, optB o p = true → (match p with | none => some d | some x => (asIdx (x.get sl)).bind fun m => if m ≤ y then some m else none) = some r →
      (o = none ∧ p = none ∧ r = d) ∨ (∃ q k z, o = some q ∧ p.isSome ∧ a.eval q = .int k z ∧ 0 ≤ z ∧ z.toNat = r ∧ r ≤ y) := by
    intro p o d y r hb hr
    cases p with
    | none =>
      cases o with
      | some q => simp [optB] at hb
      | none => simp only [Option.some.injEq] at hr; exact .inl ⟨rfl, rfl, hr.symm⟩
    | some p =>
      cases o with
      | none => simp [optB] at hb
      | some q =>
        simp only [Option.bind_eq_some_iff] at hr
        obtain ⟨i, hi1, hi2⟩ := hr
        split at hi2
        · rename_i hle
          cases hi2
          obtain ⟨k, z, e, hz, hzi⟩ := asIdx_ok (opdB_ok s hb) hi1
          exact .inr ⟨q, k, z, rfl, rfl, e, hz, hzi, hle⟩
        · cases hi2
  rcases K h3 hm with ⟨rfl, rfl, rfl⟩ | ⟨q3, k3, z3, rfl, p3, e3, g3, rfl, y3⟩
  · rcases K h2 hn with ⟨rfl, rfl, rfl⟩ | ⟨q2, k2, z2, rfl, p2, e2, g2, rfl, y2⟩
    · rcases K h1 hlo with ⟨rfl, rfl, rfl⟩ | ⟨q1, k1, z1, rfl, p1, e1, g1, rfl, y1⟩
      · exact ⟨cap', rfl, by omega, hl, hc, by simp, Nat.le_refl _, Nat.le_refl _⟩
      · refine ⟨cap', ?_, y1, hl, hc, by simp, Nat.le_refl _, Nat.le_refl _⟩
        simp only [Instr.sliceBounds, Option.map_none, Option.map_some, Sem.run_bind, Sem.run_pure, Result.andThen_ok, e1, run_sliceBound g1 y1]
    · rcases K h1 hlo with ⟨rfl, rfl, rfl⟩ | ⟨q1, k1, z1, rfl, p1, e1, g1, rfl, y1⟩
      · refine ⟨cap', ?_, by omega, y2, hc, by simp, Nat.le_refl _, Nat.le_refl _⟩
        simp only [Instr.sliceBounds, Option.map_none, Option.map_some, Sem.run_bind, Sem.run_pure, Result.andThen_ok, e2, run_sliceBound g2 (Nat.le_trans y2 hc)]
      · refine ⟨cap', ?_, y1, y2, hc, by simp, Nat.le_refl _, Nat.le_refl _⟩
        simp only [Instr.sliceBounds, Option.map_none, Option.map_some, Sem.run_bind, Sem.run_pure, Result.andThen_ok, e1, run_sliceBound g1 y1, e2, run_sliceBound g2 (Nat.le_trans y2 hc)]
  · rcases K h2 hn with ⟨rfl, rfl, rfl⟩ | ⟨q2, k2, z2, rfl, p2, e2, g2, rfl, y2⟩
    · have := hmx p3; simp at this
    · rcases K h1 hlo with ⟨rfl, rfl, rfl⟩ | ⟨q1, k1, z1, rfl, p1, e1, g1, rfl, y1⟩
      · refine ⟨_, ?_, by omega, y2, Nat.le_refl _, fun _ => rfl, y3, by omega⟩
        simp only [Instr.sliceBounds, Option.map_none, Option.map_some, Sem.run_bind, Sem.run_pure, Result.andThen_ok, e3, run_sliceBound g3 (Nat.le_trans y3 hc), e2, run_sliceBound g2 y2]
      · refine ⟨_, ?_, y1, y2, Nat.le_refl _, fun _ => rfl, y3, by omega⟩
        simp only [Instr.sliceBounds, Option.map_none, Option.map_some, Sem.run_bind, Sem.run_pure, Result.andThen_ok, e3, run_sliceBound g3 (Nat.le_trans y3 hc), e1, run_sliceBound g1 y1, e2, run_sliceBound g2 y2]

theorem op_slstr {C : Env} {b0 : Nat} (s : SR Gl base F w G a.tmps sl h) {t : TypeId} {x : Operand} {p : POpd} {lo hi : Option POpd} {lo' hi' : Option Operand} {v : AV} {h' : Store}
    (ht : P.underlying t = some .string) (hp : opdB x p = true) (h1 : optB lo' lo = true) (h2 : optB hi' hi = true) (he : evOp C b0 (.slstr p lo hi) sl h = some (v, h')) :
    Gives P w G (Instr.sliceAt t (a.eval x) (lo'.map a.eval) (hi'.map a.eval) none) v ∧ h' = h := by
  have hx := opdB_ok s hp
  simp only [evOp] at he
  generalize POpd.get sl p = u at hx he
  cases u <;> simp only [Option.map_eq_some_iff, reduceCtorEq] at he
  obtain ⟨⟨l, n, m⟩, hb, e⟩ := he
  cases e
  have e := hx.str
  rw [e]
  obtain ⟨m', B1, B2, B3, B4, B5, B6, B7⟩ := bounds_ok (P := P) s false (mx' := none) h1 h2 rfl (by simp) (Nat.le_refl _) (Nat.le_refl _) hb
  refine ⟨⟨_, ?_, .c (.str _), rfl⟩, rfl⟩
  simp only [Option.map_none] at B1
  simp only [Instr.sliceAt, Sem.run_bind, run_underlying P ht, Result.andThen_ok, Instr.slice, ba_size, B1, Option.isSome_none, Bool.false_eq_true, if_false, Sem.run_pure, ba_extract]

theorem op_slsl {C : Env} {b0 : Nat} (s : SR Gl base F w G a.tmps sl h) {t et : TypeId} {esz : Nat} {x : Operand} {p : POpd} {lo hi mx : Option POpd} {lo' hi' mx' : Option Operand} {v : AV} {h' : Store}
    (ht : P.underlying t = some (.slice et)) (hz : ∃ i, P.info? et = some i ∧ i.size = esz) (hp : opdB x p = true) (h1 : optB lo' lo = true) (h2 : optB hi' hi = true) (h3 : optB mx' mx = true) (hmx : mx.isSome → hi.isSome)
    (he : evOp C b0 (.slsl esz p lo hi mx) sl h = some (v, h')) :
    Gives P w G (Instr.sliceAt t (a.eval x) (lo'.map a.eval) (hi'.map a.eval) (mx'.map a.eval)) v ∧ h' = h := by
  obtain ⟨i, hi1, hi2⟩ := hz
  have hx := opdB_ok s hp
  simp only [evOp] at he
  generalize POpd.get sl p = u at hx he
  have run : ∀ (ad : Option Addr) (len cap l n m' : Nat), (Instr.sliceBounds true len cap (lo'.map a.eval) (hi'.map a.eval) (mx'.map a.eval)).run P w = .ok (l, n, m') w →
      (Instr.sliceAt t (.slice ad len cap) (lo'.map a.eval) (hi'.map a.eval) (mx'.map a.eval)).run P w = .ok (.slice (if m' = l then ad else ad.map (·.add (l * esz))) (n - l) (m' - l)) w := by
    intro ad len cap l n m' hb
    simp only [Instr.sliceAt, Sem.run_bind, run_underlying P ht, Result.andThen_ok, Instr.slice, hb, run_sizeOf P hi1, hi2, Sem.run_pure]
  have rd : ∀ {us : List AV} {l n m m' cap : Nat} {k o : Nat} {sp : Option Nat} {xs : List Value}, (sp = none ∨ cap = 0) → 0 < esz → (∀ v ∈ us, v.cells.length = esz) → (us.flatMap AV.cells).all AV.one = true → Reads w G k o xs → VCs w G (us.flatMap AV.cells) xs →
      l ≤ n → n ≤ m → m ≤ us.length → m ≤ m' → m' ≤ cap → VC w G (.sl esz ((us.take n).drop l)) (.slice (if m' = l then some ⟨k, o, sp⟩ else (some (⟨k, o, sp⟩ : Addr)).map (·.add (l * esz))) (n - l) (m' - l)) := by
    intro us l n m m' cap k o sp xs hs hz hl ho hr hv a1 a2 a3 a4 a5
    have hlen : ((us.take n).drop l).length = n - l := by simp; omega
    have hsub : ∀ v ∈ (us.take n).drop l, v ∈ us := fun v hv => List.mem_of_mem_take (List.mem_of_mem_drop hv)
    have hfl : ((us.take n).drop l).flatMap AV.cells = ((us.flatMap AV.cells).take (n * esz)).drop (l * esz) := by
      have T : ∀ (us : List AV), (∀ v ∈ us, v.cells.length = esz) → ∀ n, (us.take n).flatMap AV.cells = (us.flatMap AV.cells).take (n * esz) := by
        intro us
        induction us with
        | nil => simp
        | cons u us ih =>
          intro hl n
          cases n with
          | zero => simp
          | succ n =>
            simp only [List.take_succ_cons, List.flatMap_cons]
            rw [ih (fun v hv => hl v (by simp [hv])), List.take_append, hl u (by simp), Nat.succ_mul, List.take_of_length_le (l := u.cells) (by rw [hl u (by simp)]; omega)]
            congr 2; omega
      have D : ∀ (us : List AV), (∀ v ∈ us, v.cells.length = esz) → ∀ n, (us.drop n).flatMap AV.cells = (us.flatMap AV.cells).drop (n * esz) := by
        intro us
        induction us with
        | nil => simp
        | cons u us ih =>
          intro hl n
          cases n with
          | zero => simp
          | succ n =>
            simp only [List.drop_succ_cons, List.flatMap_cons]
            rw [ih (fun v hv => hl v (by simp [hv])), List.drop_append, hl u (by simp), Nat.succ_mul, List.drop_of_length_le (l := u.cells) (by rw [hl u (by simp)]; omega)]
            simp
      rw [D _ (fun v hv => hl v (List.mem_of_mem_take hv)), T _ hl]
    have hvs := ((hv.take (n * esz)).drop (l * esz))
    rw [← hfl] at hvs
    have hfo : (((us.take n).drop l).flatMap AV.cells).all AV.one = true := by
      rw [hfl]
      simp only [List.all_eq_true] at *
      exact fun x hx => ho x (List.mem_of_mem_take (List.mem_of_mem_drop hx))
    split
    · rename_i e
      have hnl : n = l := by omega
      subst hnl
      have h0 : (us.take n).drop n = [] := by simp [List.drop_take]
      rw [h0]
      have := VC.sl (w := w) (G := G) (esz := esz) (vs := []) (xs := []) (k := k) (o := o) (cap := m' - n) (sp := sp) hz (by simp) (by simp) rfl (by intro j x hx; simp at hx) .nil (.inr (by omega))
      simpa using this
    · obtain rfl : sp = none := hs.resolve_right (by omega)
      have := VC.sl (w := w) (G := G) (esz := esz) (vs := (us.take n).drop l) (k := k) (o := o + l * esz) (cap := m' - l) hz (by rw [hlen]; omega) (fun v hv => hl v (hsub v hv)) hfo ?_ hvs (.inl rfl)
      · rw [hlen] at this
        simpa [add_none] using this
      · intro j x hx
        rw [List.getElem?_drop] at hx
        have hlt : l * esz + j < n * esz := by
          rcases Nat.lt_or_ge (l * esz + j) (n * esz) with h | h
          · exact h
          · rw [List.getElem?_take_eq_none (by omega)] at hx; cases hx
        rw [List.getElem?_take_of_lt hlt] at hx
        have := hr _ _ hx
        rw [← Nat.add_assoc] at this
        exact this
  cases u <;> simp only [reduceCtorEq] at he
  case nils =>
    have e := hx.nils
    rw [e]
    simp only [Option.map_eq_some_iff] at he
    obtain ⟨⟨l, n, m⟩, hb, e⟩ := he
    cases e
    obtain ⟨m', B1, B2, B3, B4, B5, B6, B7⟩ := bounds_ok (P := P) s true h1 h2 h3 hmx (Nat.le_refl _) (Nat.le_refl _) hb
    refine ⟨⟨_, run _ _ _ _ _ _ B1, ?_, ?_⟩, rfl⟩
    · have e1 : n - l = 0 := by omega
      have e2 : m' - l = 0 := by omega
      rw [e1, e2]
      have : (if m' = l then (none : Option Addr) else (none : Option Addr).map (·.add (l * esz))) = none := by split <;> rfl
      rw [this]
      exact .c .nils
    · rfl
  case sl e us =>
    split at he
    · rename_i hee
      subst hee
      simp only [Option.map_eq_some_iff] at he
      obtain ⟨⟨l, n, m⟩, hb, ee⟩ := he
      obtain ⟨xs, k, o, sp, cap, e2, hz, hcap, hl, ho, hr, hv, hs⟩ := hx.slc.sls
      rw [e2]
      obtain ⟨m', B1, B2, B3, B4, B5, B6, B7⟩ := bounds_ok (P := P) s true h1 h2 h3 hmx hcap (Nat.le_refl _) hb
      have V := rd (m := m) hs hz hl ho hr hv B2 B3 B6 B4 B7
      cases ee
      refine ⟨⟨_, run _ _ _ _ _ _ B1, ?_, ?_⟩, rfl⟩
      · split
        · exact .gsl V
        · exact .c V
      · split
        · rename_i hc
          have hc' : mx.isSome = true ∧ n = m := hc
          have h5 := B5 hc'.1
          have : m' - l = n - l := by rw [h5, hc'.2]
          rw [this]
          cases hq : (if m' = l then some (⟨k, o, sp⟩ : Addr) else (some (⟨k, o, sp⟩ : Addr)).map (·.add (l * e))) with
          | none => rfl
          | some q => simp [tipOf]
        · rfl
    · cases he
  case gsl e us =>
    split at he
    · rename_i hee
      subst hee
      simp only [Option.map_eq_some_iff] at he
      obtain ⟨⟨l, n, m⟩, hb, ee⟩ := he
      obtain ⟨xs, k, o, sp, cap, e2, hz, hcap, hl, ho, hr, hv, hs⟩ := hx.gslc.sls
      rw [e2]
      obtain ⟨m', B1, B2, B3, B4, B5, B6, B7⟩ := bounds_ok (P := P) s true h1 h2 h3 hmx hcap (Nat.le_refl _) hb
      have V := rd (m := m) hs hz hl ho hr hv B2 B3 B6 B4 B7
      cases ee
      refine ⟨⟨_, run _ _ _ _ _ _ B1, ?_, ?_⟩, rfl⟩
      · split
        · exact .gsl V
        · exact .c V
      · split
        · rename_i hc
          have hc' : mx.isSome = true ∧ n = m := hc
          have h5 := B5 hc'.1
          have : m' - l = n - l := by rw [h5, hc'.2]
          rw [this]
          cases hq : (if m' = l then some (⟨k, o, sp⟩ : Addr) else (some (⟨k, o, sp⟩ : Addr)).map (·.add (l * e))) with
          | none => rfl
          | some q => simp [tipOf]
        · rfl
    · cases he
  case osl b off len cap =>
    cases hb : getB h b with
    | none => rw [hb] at he; cases he
    | some blk =>
      rw [hb] at he
      simp only at he
      split at he
      · rename_i hee
        simp only [Option.map_eq_some_iff] at he
        obtain ⟨⟨l, n, m⟩, hbd, ee⟩ := he
        obtain ⟨ad, cap', e2, hs, hl, hc, ha⟩ := hx.osls
        rw [e2]
        obtain ⟨m', B1, B2, B3, B4, B5, B6, B7⟩ := bounds_ok (P := P) s true h1 h2 h3 hmx hc hl hbd
        cases ee
        refine ⟨⟨_, run _ _ _ _ _ _ B1, ?_, ?_⟩, rfl⟩
        · split
          · rename_i e
            exact .osl hs (by omega) (by omega) (fun hp => by omega)
          · refine .osl (a := ad.add (l * esz)) ?_ (by omega) (by omega) (fun hp => ?_)
            · unfold Addr.add; split
              · exact hs
              · rfl
            · obtain ⟨r, hr, rfl⟩ := ha (by omega)
              exact ⟨r, hr, by rw [add_none]⟩
        · rfl
      · cases he

/-- A slice cut down to nothing. -/
theorem op_slz {C : Env} {b0 : Nat} (s : SR Gl base F w G a.tmps sl h) {t et : TypeId} {esz : Nat} {x : Operand} {p : POpd} {hi' mx' : Option Operand} {v : AV} {h' : Store}
    (ht : P.underlying t = some (.slice et)) (hz : ∃ i, P.info? et = some i ∧ i.size = esz) (hp : opdB x p = true) (h2 : optB hi' (some (ci 0)) = true) (h3 : optB mx' (some (ci 0)) = true)
    (he : evOp C b0 (.slz esz p) sl h = some (v, h')) :
    Gives P w G (Instr.sliceAt t (a.eval x) none (hi'.map a.eval) (mx'.map a.eval)) v ∧ h' = h := by
  obtain ⟨i, hi1, hi2⟩ := hz
  have hx := opdB_ok s hp
  simp only [evOp] at he
  generalize POpd.get sl p = u at hx he
  have run : ∀ (ad : Option Addr) (len cap : Nat), len ≤ cap → (Instr.sliceAt t (.slice ad len cap) none (hi'.map a.eval) (mx'.map a.eval)).run P w = .ok (.slice ad 0 0) w := by
    intro ad len cap hc
    have hb : bounds sl len cap none (some (ci 0)) (some (ci 0)) = some (0, 0, 0) := by simp [bounds, POpd.get, KV.av, asIdx]
    obtain ⟨m', B1, _, _, _, B5, _, _⟩ := bounds_ok (P := P) s true (lo' := none) rfl h2 h3 (by simp) (Nat.le_refl cap) hc hb
    have := B5 rfl
    subst this
    simp only [Option.map_none] at B1
    simp only [Instr.sliceAt, Sem.run_bind, run_underlying P ht, Result.andThen_ok, Instr.slice, B1, run_sizeOf P hi1, hi2, Sem.run_pure]
    simp
  cases u <;> simp only [reduceCtorEq] at he
  case nils =>
    cases he
    rw [hx.nils]
    exact ⟨⟨_, run _ _ _ (Nat.le_refl _), .c .nils, rfl⟩, rfl⟩
  case sl e us =>
    split at he
    · cases he
      obtain ⟨xs, k, o, sp, cap, e2, hz, hcap, hl, ho, hr, hv, hs⟩ := hx.slc.sls
      rw [e2]
      exact ⟨⟨_, run _ _ _ hcap, .c (.z _ _ _ _), rfl⟩, rfl⟩
    · cases he
  case gsl e us =>
    split at he
    · cases he
      obtain ⟨xs, k, o, sp, cap, e2, hz, hcap, hl, ho, hr, hv, hs⟩ := hx.gslc.sls
      rw [e2]
      exact ⟨⟨_, run _ _ _ hcap, .c (.z _ _ _ _), rfl⟩, rfl⟩
    · cases he
  case osl b off len cap =>
    split at he
    · split at he
      · cases he
        obtain ⟨⟨k, o, sp⟩, cap', e2, hs, hl, hc, ha⟩ := hx.osls
        simp only at hs
        subst hs
        rw [e2]
        exact ⟨⟨_, run _ _ _ (Nat.le_trans hl hc), .c (.z _ _ _ _), rfl⟩, rfl⟩
      · cases he
    · cases he

end Go.Proofs.YteaopgkajbfkeaaGreatDoor
namespace Go.Proofs.YteaopgkajbfkeaaGreatDoor
open Go Go.RowKit

variable {Gl : Nat → Option (List AV)} {base : Nat} {F : Fr} {w : World} {G : Gh} {sl : List AV} {h : Store} {a : Act} {P : Program} {C : Env} {b0 : Nat}

theorem VC.noTip {v : AV} {x : Value} (h : VC w G v x) : tipOf v x = none := by cases h <;> rfl

/-- The type's values are structs, and the field lies so. -/
def fieldB (P : Program) (t : TypeId) (f : Nat) (ag : Bool) (off sz : Nat) : Bool :=
  match P.underlying t with
  | some (.struct fs) => (match fs[f]? with | some fd => fd.offset == off && tyIs P fd.type ag sz && decide (0 < sz) | none => false)
  | _ => false

theorem fieldB_ok {t : TypeId} {f : Nat} {ag : Bool} {off sz : Nat} (hb : fieldB P t f ag off sz = true) : ∃ fs fd, P.underlying t = some (.struct fs) ∧ fs[f]? = some fd ∧ fd.offset = off ∧ tyIs P fd.type ag sz = true ∧ 0 < sz := by
  unfold fieldB at hb
  split at hb
  · rename_i fs hu
    split at hb
    · rename_i fd hf
      simp only [Bool.and_eq_true, beq_iff_eq, decide_eq_true_eq] at hb
      exact ⟨fs, fd, hu, hf, hb.1.1, hb.1.2, hb.2⟩
    · cases hb
  · cases hb

def arrB (P : Program) (t : TypeId) (n esz : Nat) : Bool :=
  match P.underlying t with
  | some (.array m e) => m == n && decide (1 < n) && decide (0 < esz) && (match P.info? e with | some i => i.size == esz | none => false)
  | _ => false

theorem arrB_ok {t : TypeId} {n esz : Nat} (hb : arrB P t n esz = true) : ∃ e i, P.underlying t = some (.array n e) ∧ P.info? e = some i ∧ i.size = esz ∧ 1 < n ∧ 0 < esz := by
  unfold arrB at hb
  split at hb
  · rename_i m e hu
    simp only [Bool.and_eq_true, beq_iff_eq, decide_eq_true_eq] at hb
    obtain ⟨⟨⟨rfl, h1⟩, h2⟩, h3⟩ := hb
    split at h3
    · rename_i i hi
      simp only [beq_iff_eq] at h3
      exact ⟨e, i, hu, hi, h3, h1, h2⟩
    · cases h3
  · cases hb

def slB (P : Program) (t : TypeId) (esz : Nat) : Bool :=
  match P.underlying t with
  | some (.slice e) => decide (0 < esz) && (match P.info? e with | some i => i.size == esz | none => false)
  | _ => false

theorem slB_ok {t : TypeId} {esz : Nat} (hb : slB P t esz = true) : ∃ e i, P.underlying t = some (.slice e) ∧ P.info? e = some i ∧ i.size = esz ∧ 0 < esz := by
  unfold slB at hb
  split at hb
  · rename_i e hu
    simp only [Bool.and_eq_true, decide_eq_true_eq] at hb
    obtain ⟨h2, h3⟩ := hb
    split at h3
    · rename_i i hi
      simp only [beq_iff_eq] at h3
      exact ⟨e, i, hu, hi, h3, h2⟩
    · cases h3
  · cases hb

def stepAddr (n : Nat) : AV → Option AV
  | .ref b o => some (.ref b (o + n))
  | .eref cs o => some (.eref cs (o + n))
  | .gptr g o => some (.gptr g (o + n))
  | _ => none

/-- An address into what is known, some cells further. -/
theorem addr_step {u v : AV} {x : Value} (n : Nat) (hx : VR w G u x) (hv : stepAddr n u = some v) :
    ∃ k o, x = .pointer (some ⟨k, o, none⟩) ∧ VR w G v (.pointer (some ⟨k, o + n, none⟩)) ∧ ∀ y, tipOf v y = none := by
  cases u <;> simp only [stepAddr, Option.some.injEq, reduceCtorEq] at hv
  case ref b o =>
    subst hv
    obtain ⟨r, rfl, hr⟩ := hx.refs
    exact ⟨r, o, rfl, .ref hr, fun _ => rfl⟩
  case eref cs o =>
    subst hv
    obtain ⟨xs, k, o', rfl, ho, hr, hc⟩ := hx.erefs
    refine ⟨k, o' + o, rfl, ?_, fun _ => rfl⟩
    rw [Nat.add_assoc]
    exact .c (.eref ho hr hc)
  case gptr g o =>
    subst hv
    have := hx.gptrs
    subst this
    exact ⟨g, o, rfl, .c (.gptr _ _), fun _ => rfl⟩

theorem op_faddr (s : SR Gl base F w G a.tmps sl h) {t : TypeId} {f : Nat} {ag : Bool} {off sz : Nat} {x : Operand} {p : POpd} {v : AV} {h' : Store} (hf : fieldB P t f ag off sz = true) (hp : opdB x p = true)
    (he : evOp C b0 (.faddr off p) sl h = some (v, h')) : Gives P w G (Instr.fieldAt t (a.eval x) f) v ∧ h' = h := by
  obtain ⟨fs, fd, hu, hfd, rfl, ht, hsz⟩ := fieldB_ok hf
  obtain ⟨d, i, hd, hi, hag, his⟩ := tyIs_ok ht
  have hx := opdB_ok s hp
  simp only [evOp] at he
  generalize POpd.get sl p = u at hx he
  have hh : h' = h ∧ stepAddr (fd.offset) u = some v := by
    cases u <;> simp only [stepAddr, Option.some.injEq, Prod.mk.injEq, reduceCtorEq] at he ⊢ <;> exact ⟨he.2.symm, he.1⟩
  obtain ⟨k, o, e, hv, hn⟩ := addr_step fd.offset hx hh.2
  refine ⟨⟨_, ?_, hv, hn _⟩, hh.1⟩
  rw [e]
  simp only [Instr.fieldAt, Sem.run_bind, run_underlying P hu, Result.andThen_ok, hfd, Instr.sureAddr, Sem.run_pure, fieldPlace, run_sizeOf P hi, his]
  rw [if_neg (by omega)]
  simp [add_none]

theorem op_iarr (s : SR Gl base F w G a.tmps sl h) {t : TypeId} {n esz : Nat} {x i : Operand} {p q : POpd} {v : AV} {h' : Store} (hf : arrB P t n esz = true) (hp : opdB x p = true) (hq : opdB i q = true)
    (he : evOp C b0 (.iarr n esz p q) sl h = some (v, h')) : Gives P w G (Instr.indexAt t (a.eval x) (a.eval i)) v ∧ h' = h := by
  obtain ⟨e, inf, hu, hi, rfl, hn, hz⟩ := arrB_ok hf
  have hx := opdB_ok s hp
  have hy := opdB_ok s hq
  simp only [evOp] at he
  generalize POpd.get sl p = u at hx he
  cases hj : asIdx (POpd.get sl q) with
  | none => rw [hj] at he; cases he
  | some j =>
    rw [hj] at he
    simp only at he
    obtain ⟨k, z, ez, hz0, hzj⟩ := asIdx_ok hy hj
    split at he
    · rename_i hjn
      have hh : h' = h ∧ stepAddr (j * inf.size) u = some v := by
        cases u <;> simp only [stepAddr, Option.some.injEq, Prod.mk.injEq, reduceCtorEq] at he ⊢ <;> exact ⟨he.2.symm, he.1⟩
      obtain ⟨kb, o, e2, hv, hn'⟩ := addr_step (j * inf.size) hx hh.2
      refine ⟨⟨_, ?_, hv, hn' _⟩, hh.1⟩
      rw [e2, ez]
      simp only [Instr.indexAt, Sem.run_bind, asIntOf, Sem.run_pure, Result.andThen_ok, run_underlying P hu, Instr.sureAddr, run_sizeOf P hi]
      rw [Sem.run_ite, if_pos (by omega)]
      simp [add_none, hzj, run_sizeOf P hi]
    · cases he

theorem reads_mid {xs : List Value} {k o : Nat} (hr : Reads w G k o xs) (n m : Nat) : Reads w G k (o + n) ((xs.drop n).take m) := by
  intro j x hx
  have hj : j < m := by
    rcases Nat.lt_or_ge j m with h | h
    · exact h
    · rw [List.getElem?_take_eq_none h] at hx; cases hx
  rw [List.getElem?_take_of_lt hj, List.getElem?_drop] at hx
  have := hr _ _ hx
  rw [← Nat.add_assoc] at this
  exact this

/-- An element's cells within the slice's. -/
theorem flat_mid {esz : Nat} : ∀ {us : List AV} {j : Nat} {v : AV}, (∀ v ∈ us, v.cells.length = esz) → us[j]? = some v → ((us.flatMap AV.cells).drop (j * esz)).take esz = v.cells
  | [], j, v, _, h => by simp at h
  | u :: us, 0, v, hl, h => by
    simp at h
    subst h
    have := hl u (by simp)
    simp [← this]
  | u :: us, j + 1, v, hl, h => by
    have := hl u (by simp)
    rw [List.flatMap_cons, List.drop_append, this, Nat.succ_mul, List.drop_of_length_le (by omega), List.nil_append, show j * esz + esz - esz = j * esz by omega]
    exact flat_mid (fun v hv => hl v (by simp [hv])) (by simpa using h)

theorem op_isl (s : SR Gl base F w G a.tmps sl h) {t : TypeId} {esz : Nat} {x i : Operand} {p q : POpd} {v : AV} {h' : Store} (hf : slB P t esz = true) (hp : opdB x p = true) (hq : opdB i q = true)
    (he : evOp C b0 (.isl esz p q) sl h = some (v, h')) : Gives P w G (Instr.indexAt t (a.eval x) (a.eval i)) v ∧ h' = h := by
  obtain ⟨e, inf, hu, hi, rfl, hz⟩ := slB_ok hf
  have hx := opdB_ok s hp
  have hy := opdB_ok s hq
  simp only [evOp] at he
  generalize POpd.get sl p = u at hx he
  cases hj : asIdx (POpd.get sl q) with
  | none => rw [hj] at he; cases he
  | some j =>
    rw [hj] at he
    simp only at he
    obtain ⟨k, z, ez, hz0, hzj⟩ := asIdx_ok hy hj
    have run : ∀ (ad : Addr) (len cap : Nat), j < len → (Instr.indexAt t (.slice (some ad) len cap) (a.eval i)).run P w = .ok (.pointer (some (ad.add (j * inf.size)))) w := by
      intro ad len cap hjl
      rw [ez]
      simp only [Instr.indexAt, Sem.run_bind, asIntOf, Sem.run_pure, Result.andThen_ok, run_underlying P hu]
      rw [Sem.run_ite, if_pos (by omega)]
      simp [hzj, run_sizeOf P hi]
    have rd : ∀ {us : List AV} {vj : AV}, VC w G (.sl inf.size us) (a.eval x) → us[j]? = some vj → Gives P w G (Instr.indexAt t (a.eval x) (a.eval i)) (.eref vj.cells 0) := by
      intro us vj hc hvj
      obtain ⟨xs, kb, o, sp, cap, e2, _, hcap, hl, ho, hr, hv, hs⟩ := hc.sls
      rw [e2]
      have hjl : j < us.length := by
        rcases Nat.lt_or_ge j us.length with h | h
        · exact h
        · rw [List.getElem?_eq_none h] at hvj; cases hvj
      obtain rfl : sp = none := hs.resolve_right (by omega)
      refine ⟨_, run _ _ _ hjl, ?_, rfl⟩
      rw [add_none]
      have hm := flat_mid hl hvj
      have hv' := (hv.drop (j * inf.size)).take inf.size
      rw [hm] at hv'
      have ho' := all_sub ho (j * inf.size) inf.size
      rw [hm] at ho'
      have := VC.eref (off := 0) ho' (reads_mid hr (j * inf.size) inf.size) hv'
      exact .c (by simpa using this)
    cases u <;> simp only [reduceCtorEq] at he
    case sl e2 us =>
      split at he
      · rename_i hee
        subst hee
        simp only [Option.map_eq_some_iff, Prod.mk.injEq] at he
        obtain ⟨vj, hvj, rfl, rfl⟩ := he
        exact ⟨rd hx.slc hvj, rfl⟩
      · cases he
    case gsl e2 us =>
      split at he
      · rename_i hee
        subst hee
        simp only [Option.map_eq_some_iff, Prod.mk.injEq] at he
        obtain ⟨vj, hvj, rfl, rfl⟩ := he
        exact ⟨rd hx.gslc hvj, rfl⟩
      · cases he
    case osl b off len cap =>
      cases hb : getB h b with
      | none => rw [hb] at he; cases he
      | some blk =>
        rw [hb] at he
        simp only at he
        split at he
        · rename_i hc
          simp only [Option.some.injEq, Prod.mk.injEq] at he
          obtain ⟨rfl, rfl⟩ := he
          obtain ⟨ad, cap', e2, hs, hl, hcc, ha⟩ := hx.osls
          obtain ⟨r, hr, rfl⟩ := ha (by omega)
          rw [e2]
          refine ⟨⟨_, run _ _ _ hc.2, ?_, rfl⟩, rfl⟩
          rw [add_none]
          exact .ref hr
        · cases he

theorem op_field (s : SR Gl base F w G a.tmps sl h) {t : TypeId} {f : Nat} {ag : Bool} {off sz : Nat} {x : Operand} {p : POpd} {v : AV} {h' : Store} (hf : fieldB P t f ag off sz = true) (hp : opdB x p = true)
    (he : evOp C b0 (.field ag off sz p) sl h = some (v, h')) : Gives P w G (Instr.field t (a.eval x) f) v ∧ h' = h := by
  obtain ⟨fs, fd, hu, hfd, rfl, ht, hsz⟩ := fieldB_ok hf
  obtain ⟨d, i, hd, hi, hag, his⟩ := tyIs_ok ht
  have hx := opdB_ok s hp
  simp only [evOp] at he
  generalize POpd.get sl p = u at hx he
  cases u <;> simp only [reduceCtorEq] at he
  rename_i cs
  obtain ⟨xs, e, hv, ho⟩ := hx.aggs
  simp only [Option.map_eq_some_iff, Prod.mk.injEq] at he
  obtain ⟨v0, hv0, rfl, rfl⟩ := he
  rw [e]
  have run : ∀ y, (part fd.type ⟨xs⟩ fd.offset).run P w = .ok y w → (Instr.field t (.agg ⟨xs⟩) f).run P w = .ok y w := by
    intro y hy
    simp only [Instr.field, Sem.run_bind, run_underlying P hu, Result.andThen_ok, hfd, asAgg, Sem.run_pure, hy]
  rcases hv.part ho hv0 with ⟨rfl, hl, hvv, hve⟩ | ⟨rfl, y, hy, hvv, _⟩
  · refine ⟨⟨.agg ⟨(xs.drop fd.offset).take sz⟩, run _ ?_, ?_, ?_⟩, rfl⟩
    · simp only [part, Sem.run_bind, run_isAgg P hd, Result.andThen_ok, hag, if_true, run_sizeOf P hi, his, Sem.run_pure]
      simp
    · subst hve; exact agg_map_untip hvv
    · rfl
  · refine ⟨⟨y, run _ ?_, hvv.untip, tipOf_untip _ _⟩, rfl⟩
    simp only [part, Sem.run_bind, run_isAgg P hd, Result.andThen_ok, hag, Bool.false_eq_true, if_false]
    simp [hy]

theorem op_ixarr (s : SR Gl base F w G a.tmps sl h) {t : TypeId} {n esz : Nat} {ag : Bool} {x i : Operand} {p q : POpd} {v : AV} {h' : Store} (hf : arrB P t n esz = true) (hag : ∃ e, P.underlying t = some (.array n e) ∧ tyIs P e ag esz = true)
    (hp : opdB x p = true) (hq : opdB i q = true) (he : evOp C b0 (.ixarr n esz ag p q) sl h = some (v, h')) : Gives P w G (Instr.index t (a.eval x) (a.eval i)) v ∧ h' = h := by
  obtain ⟨e, hu, ht⟩ := hag
  obtain ⟨d, inf, hd, hi, hag, his⟩ := tyIs_ok ht
  have hx := opdB_ok s hp
  have hy := opdB_ok s hq
  simp only [evOp] at he
  generalize POpd.get sl p = u at hx he
  cases hj : asIdx (POpd.get sl q) with
  | none => rw [hj] at he; simp only [reduceCtorEq] at he
  | some j =>
    rw [hj] at he
    obtain ⟨k, z, ez, hz0, hzj⟩ := asIdx_ok hy hj
    cases u <;> simp only [reduceCtorEq] at he
    rename_i cs
    obtain ⟨xs, e2, hv, ho⟩ := hx.aggs
    split at he
    · rename_i hjn
      simp only [Option.map_eq_some_iff, Prod.mk.injEq] at he
      obtain ⟨v0, hv0, rfl, rfl⟩ := he
      rw [e2, ez]
      have run : ∀ y, (part e ⟨xs⟩ (j * esz)).run P w = .ok y w → (Instr.index t (.agg ⟨xs⟩) (.int k z)).run P w = .ok y w := by
        intro y hy
        simp only [Instr.index, Sem.run_bind, asIntOf, Sem.run_pure, Result.andThen_ok, run_underlying P hu]
        rw [Sem.run_ite, if_pos (by omega)]
        simp only [Sem.run_bind, run_sizeOf P hi, his, Result.andThen_ok, hzj, hy]
      rcases hv.part ho hv0 with ⟨rfl, hl, hvv, hve⟩ | ⟨rfl, y, hy, hvv, _⟩
      · refine ⟨⟨.agg ⟨(xs.drop (j * esz)).take esz⟩, run _ ?_, ?_, ?_⟩, rfl⟩
        · simp only [part, Sem.run_bind, run_isAgg P hd, Result.andThen_ok, hag, if_true, run_sizeOf P hi, his, Sem.run_pure]
          simp
        · subst hve; exact agg_map_untip hvv
        · rfl
      · refine ⟨⟨y, run _ ?_, hvv.untip, tipOf_untip _ _⟩, rfl⟩
        simp only [part, Sem.run_bind, run_isAgg P hd, Result.andThen_ok, hag, Bool.false_eq_true, if_false]
        simp [hy]
    · cases he

theorem op_ixstr (s : SR Gl base F w G a.tmps sl h) {t : TypeId} {x i : Operand} {p q : POpd} {v : AV} {h' : Store} (ht : P.underlying t = some .string) (hp : opdB x p = true) (hq : opdB i q = true)
    (he : evOp C b0 (.ixstr p q) sl h = some (v, h')) : Gives P w G (Instr.index t (a.eval x) (a.eval i)) v ∧ h' = h := by
  have hx := opdB_ok s hp
  have hy := opdB_ok s hq
  simp only [evOp] at he
  generalize POpd.get sl p = u at hx he
  cases hj : asIdx (POpd.get sl q) with
  | none => rw [hj] at he; simp only [reduceCtorEq] at he
  | some j =>
    rw [hj] at he
    obtain ⟨k, z, ez, hz0, hzj⟩ := asIdx_ok hy hj
    cases u <;> simp only [reduceCtorEq] at he
    rename_i cs
    simp only [Option.map_eq_some_iff, Prod.mk.injEq] at he
    obtain ⟨b, hb, rfl, rfl⟩ := he
    have e := hx.str
    rw [e, ez]
    refine ⟨⟨_, ?_, .c (.int _ _), rfl⟩, rfl⟩
    simp only [Instr.index, Sem.run_bind, asIntOf, Sem.run_pure, Result.andThen_ok, run_underlying P ht, if_pos hz0, hzj, ba_get, hb]

theorem op_ext (s : SR Gl base F w G a.tmps sl h) {x : Operand} {p : POpd} {i : Nat} {v : AV} {h' : Store} (hp : opdB x p = true) (he : evOp C b0 (.ext p i) sl h = some (v, h')) :
    Gives P w G (Instr.extract (a.eval x) i) v ∧ h' = h := by
  have hx := opdB_ok s hp
  simp only [evOp] at he
  generalize POpd.get sl p = u at hx he
  cases u <;> simp only [reduceCtorEq] at he
  simp only [Option.map_eq_some_iff, Prod.mk.injEq] at he
  obtain ⟨v0, hv0, rfl, rfl⟩ := he
  obtain ⟨xs, e, hv⟩ := hx.tups
  obtain ⟨y, hy, hvy⟩ := hv.get hv0
  rw [e]
  exact ⟨⟨y, by simp [Instr.extract, hy], hvy.untip, tipOf_untip _ _⟩, rfl⟩

def lenB (P : Program) (t : TypeId) (str : Bool) : Bool :=
  match P.underlying t with
  | some .string => str
  | some (.slice _) => !str
  | _ => false

theorem op_len (s : SR Gl base F w G a.tmps sl h) {t ty : TypeId} {ts : Array TypeId} {x : Operand} {p : POpd} {str : Bool} {v : AV} {h' : Store} (hts : ts[0]? = some t) (ht : lenB P t str = true) (hp : opdB x p = true)
    (he : evOp C b0 (.len str p) sl h = some (v, h')) : Gives P w G (Builtin.len_ ts ty #[a.eval x]) v ∧ h' = h := by
  have hx := opdB_ok s hp
  simp only [evOp] at he
  generalize POpd.get sl p = u at hx he
  unfold lenB at ht
  split at ht
  · rename_i hu
    subst ht
    cases u <;> simp only [Option.some.injEq, Prod.mk.injEq, reduceCtorEq] at he
    obtain ⟨rfl, rfl⟩ := he
    have e := hx.str
    rw [e]
    refine ⟨⟨_, ?_, .c (.int _ _), rfl⟩, rfl⟩
    simp [Builtin.len_, hts, underlying, hu, goInt, ba_size]
  · rename_i e hu
    cases str with
    | true => cases ht
    | false =>
      cases u <;> simp only [Option.some.injEq, Prod.mk.injEq, reduceCtorEq] at he
      case nils =>
        obtain ⟨rfl, rfl⟩ := he
        have e := hx.nils
        rw [e]
        exact ⟨⟨_, by simp [Builtin.len_, hts, underlying, hu, goInt], .c (.int _ _), rfl⟩, rfl⟩
      case sl e2 us =>
        obtain ⟨rfl, rfl⟩ := he
        obtain ⟨xs, kb, o, sp, cap, e2, _⟩ := hx.slc.sls
        rw [e2]
        exact ⟨⟨_, by simp [Builtin.len_, hts, underlying, hu, goInt], .c (.int _ _), rfl⟩, rfl⟩
      case gsl e2 us =>
        obtain ⟨rfl, rfl⟩ := he
        obtain ⟨xs, kb, o, sp, cap, e2, _⟩ := hx.gslc.sls
        rw [e2]
        exact ⟨⟨_, by simp [Builtin.len_, hts, underlying, hu, goInt], .c (.int _ _), rfl⟩, rfl⟩
      case osl b off len cap =>
        obtain ⟨rfl, rfl⟩ := he
        obtain ⟨ad, cap', e2, _⟩ := hx.osls
        rw [e2]
        exact ⟨⟨_, by simp [Builtin.len_, hts, underlying, hu, goInt], .c (.int _ _), rfl⟩, rfl⟩
  · cases ht

theorem fold_max : ∀ {xs : List AV} {ys : List Value} {v : AV} {x0 : AV} {y0 : Value}, VRs w G xs ys → VR w G x0 y0 → tipOf x0 y0 = none → xs.foldlM evMax x0 = some v →
    ∃ z, (ys.foldlM Builtin.max2 y0).run P w = .ok z w ∧ VR w G v z ∧ tipOf v z = none
  | [], _, v, x0, y0, hv, h0, ht, he => by
    obtain _ | _ := hv
    simp only [List.foldlM_nil, pure, Option.some.injEq] at he
    subst he
    exact ⟨y0, rfl, h0, ht⟩
  | x :: xs, _, v, x0, y0, hv, h0, ht, he => by
    obtain _ | ⟨hx, hv⟩ := hv
    simp only [List.foldlM_cons, bind, Option.bind_eq_some_iff] at he
    obtain ⟨v1, h1, he⟩ := he
    cases x0 <;> cases x <;> simp only [evMax, Option.some.injEq, reduceCtorEq] at h1
    have := h0.int; subst this
    have := hx.int; subst this
    subst h1
    obtain ⟨z, h2, h3, h4⟩ := fold_max hv (.c (.int _ _)) rfl he
    exact ⟨z, by simp only [List.foldlM_cons, Sem.run_bind, Builtin.max2, Sem.run_pure, Result.andThen_ok]; exact h2, h3, h4⟩

theorem fold_min : ∀ {xs : List AV} {ys : List Value} {v : AV} {x0 : AV} {y0 : Value}, VRs w G xs ys → VR w G x0 y0 → tipOf x0 y0 = none → xs.foldlM evMin x0 = some v →
    ∃ z, (ys.foldlM Builtin.min2 y0).run P w = .ok z w ∧ VR w G v z ∧ tipOf v z = none
  | [], _, v, x0, y0, hv, h0, ht, he => by
    obtain _ | _ := hv
    simp only [List.foldlM_nil, pure, Option.some.injEq] at he
    subst he
    exact ⟨y0, rfl, h0, ht⟩
  | x :: xs, _, v, x0, y0, hv, h0, ht, he => by
    obtain _ | ⟨hx, hv⟩ := hv
    simp only [List.foldlM_cons, bind, Option.bind_eq_some_iff] at he
    obtain ⟨v1, h1, he⟩ := he
    cases x0 <;> cases x <;> simp only [evMin, Option.some.injEq, reduceCtorEq] at h1
    have := h0.int; subst this
    have := hx.int; subst this
    subst h1
    obtain ⟨z, h2, h3, h4⟩ := fold_min hv (.c (.int _ _)) rfl he
    exact ⟨z, by simp only [List.foldlM_cons, Sem.run_bind, Builtin.min2, Sem.run_pure, Result.andThen_ok]; exact h2, h3, h4⟩

theorem op_max (s : SR Gl base F w G a.tmps sl h) {ts : Array TypeId} {ty : TypeId} {xs : List Operand} {ps : List POpd} {v : AV} {h' : Store} (hp : opdsB xs ps = true) (h2 : 2 ≤ ps.length) (he : evOp C b0 (.max ps) sl h = some (v, h')) :
    Gives P w G (Builtin.max_ ts ty (xs.map a.eval).toArray) v ∧ h' = h := by
  have hx := opdsB_ok s hp
  simp only [evOp] at he
  match ps, h2, hx, he with
  | p :: q :: r, _, hx, he =>
    simp only [List.map_cons] at he hx
    generalize xs.map a.eval = zs at hx
    obtain _ | ⟨hx0, hx⟩ := hx
    simp only [Option.map_eq_some_iff, Prod.mk.injEq] at he
    obtain ⟨v0, hv0, rfl, rfl⟩ := he
    have ht : tipOf (POpd.get sl p) (by assumption) = none := by
      simp only [List.foldlM_cons, bind, Option.bind_eq_some_iff] at hv0
      obtain ⟨v1, h1, _⟩ := hv0
      generalize POpd.get sl p = u at h1
      cases u <;> simp only [evMax, reduceCtorEq] at h1
      rfl
    obtain ⟨z, z1, z2, z3⟩ := fold_max (P := P) hx hx0 ht hv0
    exact ⟨⟨z, by simpa [Builtin.max_] using z1, z2, z3⟩, rfl⟩

theorem op_min (s : SR Gl base F w G a.tmps sl h) {ts : Array TypeId} {ty : TypeId} {xs : List Operand} {ps : List POpd} {v : AV} {h' : Store} (hp : opdsB xs ps = true) (h2 : 2 ≤ ps.length) (he : evOp C b0 (.min ps) sl h = some (v, h')) :
    Gives P w G (Builtin.min_ ts ty (xs.map a.eval).toArray) v ∧ h' = h := by
  have hx := opdsB_ok s hp
  simp only [evOp] at he
  match ps, h2, hx, he with
  | p :: q :: r, _, hx, he =>
    simp only [List.map_cons] at he hx
    generalize xs.map a.eval = zs at hx
    obtain _ | ⟨hx0, hx⟩ := hx
    simp only [Option.map_eq_some_iff, Prod.mk.injEq] at he
    obtain ⟨v0, hv0, rfl, rfl⟩ := he
    have ht : tipOf (POpd.get sl p) (by assumption) = none := by
      simp only [List.foldlM_cons, bind, Option.bind_eq_some_iff] at hv0
      obtain ⟨v1, h1, _⟩ := hv0
      generalize POpd.get sl p = u at h1
      cases u <;> simp only [evMin, reduceCtorEq] at h1
      rfl
    obtain ⟨z, z1, z2, z3⟩ := fold_min (P := P) hx hx0 ht hv0
    exact ⟨⟨z, by simpa [Builtin.min_] using z1, z2, z3⟩, rfl⟩

theorem op_slarr (s : SR Gl base F w G a.tmps sl h) {t : TypeId} {n esz : Nat} {x : Operand} {p : POpd} {lo hi mx : Option POpd} {lo' hi' mx' : Option Operand} {v : AV} {h' : Store} (hf : arrB P t n esz = true) (hp : opdB x p = true)
    (h1 : optB lo' lo = true) (h2 : optB hi' hi = true) (h3 : optB mx' mx = true) (hmx : mx.isSome → hi.isSome) (he : evOp C b0 (.slarr n esz p lo hi mx) sl h = some (v, h')) :
    Gives P w G (Instr.sliceAt t (a.eval x) (lo'.map a.eval) (hi'.map a.eval) (mx'.map a.eval)) v ∧ h' = h := by
  obtain ⟨e, inf, hu, hi1, rfl, hn, hz⟩ := arrB_ok hf
  have hx := opdB_ok s hp
  simp only [evOp] at he
  generalize POpd.get sl p = u at hx he
  cases u <;> simp only [reduceCtorEq] at he
  rename_i b off
  cases hb : getB h b with
  | none => rw [hb] at he; cases he
  | some blk =>
    rw [hb] at he
    simp only at he
    split at he
    · simp only [Option.map_eq_some_iff, Prod.mk.injEq] at he
      obtain ⟨⟨l, k, m⟩, hbd, rfl, rfl⟩ := he
      obtain ⟨r, e2, hr⟩ := hx.refs
      rw [e2]
      obtain ⟨m', B1, B2, B3, B4, B5, B6, B7⟩ := bounds_ok (P := P) s false h1 h2 h3 hmx (Nat.le_refl _) (Nat.le_refl _) hbd
      refine ⟨⟨.slice (some (if m' = l then ⟨r, off, none⟩ else (⟨r, off, none⟩ : Addr).add (l * inf.size))) (k - l) (m' - l), ?_, ?_, rfl⟩, rfl⟩
      · simp only [Instr.sliceAt, Sem.run_bind, run_underlying P hu, Result.andThen_ok, Instr.sureAddr, Sem.run_pure, B1, run_sizeOf P hi1]
      · split
        · exact .osl rfl (by omega) (by omega) (fun hp => by omega)
        · exact .osl (by rw [add_none]) (by omega) (by omega) (fun hp => ⟨r, hr, by rw [add_none]⟩)
    · cases he

end Go.Proofs.YteaopgkajbfkeaaGreatDoor
