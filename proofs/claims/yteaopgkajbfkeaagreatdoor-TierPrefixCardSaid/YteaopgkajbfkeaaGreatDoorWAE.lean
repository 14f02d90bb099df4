/- Regions: in the given order, and in any. Regions in any order; code. Addresses that outlive a call: older blocks hold no address of a younger one. Functions, and the tower of calls: the evaluator is right about the model. The tower of calls. The evaluator without counted rounds: its limit, and the equations by which it is computed. -/
import Derived.Test.YteaopgkajbfkeaaGreatDoorWAD
import Derived.Orders
set_option linter.unusedSimpArgs false
set_option linter.unusedVariables false
namespace Go.Proofs.YteaopgkajbfkeaaGreatDoor
open Go Go.RowKit

variable {Gl : Nat → Option (List AV)} {base : Nat} {F : Fr} {w : World} {G : Gh} {a : Act} {P : Program} {C : Env} {b0 : Nat}

def grdB (ops : Array Oper) (g : Option (Nat × Bool)) (g' : Option (Nat × Bool)) : Bool :=
  match g, g' with
  | none, none => true
  | some (j, want), some (t, want') => (match ops[j]? with | some o => (match o.dst with | some d => d == t | none => false) | none => false) && want == want'
  | _, _ => false

def rowB (P : Program) (ops : Array Oper) (o : Oper) (r : PRow) : Bool := decide (r.dst = o.dst) && grdB ops o.guard r.grd && opB P o.op o.dst r.op

def rowsB (P : Program) (ops : Array Oper) : List Oper → List PRow → Bool
  | [], [] => true
  | o :: os, r :: rs => rowB P ops o r && rowsB P ops os rs
  | _, _ => false

theorem rowsB_get {ops : Array Oper} : ∀ {os : List Oper} {rs : List PRow}, rowsB P ops os rs = true → rs.length = os.length ∧ ∀ (i : Nat) o, os[i]? = some o → ∃ r, rs[i]? = some r ∧ rowB P ops o r = true
  | [], [], _ => ⟨rfl, by simp⟩
  | o :: os, r :: rs, h => by
    simp only [rowsB, Bool.and_eq_true] at h
    obtain ⟨h1, h2⟩ := rowsB_get h.2
    refine ⟨by simp [h1], fun i o' ho => ?_⟩
    cases i with
    | zero => simp at ho; subst ho; exact ⟨r, rfl, h.1⟩
    | succ i => simpa using h2 i o' (by simpa using ho)
  | [], _ :: _, h => by cases h
  | _ :: _, [], h => by cases h

/-- The state behind a piece of code. -/
def Goes (Gl : Nat → Option (List AV)) (base : Nat) (F : Fr) (w : World) (G : Gh) (a' : Act) (st : St) (w' : World) : Prop :=
  a'.defers = [] ∧ ∃ G', Ext w G w' G' ∧ Below base w w' ∧ SR Gl base F w' G' a'.tmps st.1 st.2

theorem put_defers (a : Act) (d : Option Nat) (y : Value) : (a.put d y).defers = a.defers := by cases d <;> rfl

theorem row_sound (hC : EnvOK P Gl C) {ops : Array Oper} {o : Oper} {r : PRow} (hb : rowB P ops o r = true) {sl : List AV} {h : Store} (s : SR Gl base F w G a.tmps sl h) (hd : a.defers = []) {st' : St} (he : evRow C b0 r (sl, h) = some st')
    {K : Act → World → Prop} {Q : Exit → Act → World → Prop} (hk : ∀ a' w', Goes Gl base F w G a' st' w' → K a' w') :
    if Region.wanted o (yielded ops a.tmps) then o.wp P a w K Q else K (a.put o.dst undef) w := by
  simp only [rowB, Bool.and_eq_true, decide_eq_true_eq] at hb
  obtain ⟨⟨b1, b2⟩, b3⟩ := hb
  have run : runRow C b0 r (sl, h) = some st' → o.wp P a w K Q := by
    intro hr
    simp only [runRow, Option.map_eq_some_iff] at hr
    obtain ⟨⟨v, h'⟩, hv, rfl⟩ := hr
    refine op_sound hC b1 b3 s hv K Q (fun y w' hE => hk _ _ ⟨by rw [put_defers]; exact hd, hE⟩)
  have skip : st' = (skipRes r sl, h) → K (a.put o.dst undef) w := by
    intro e
    refine hk _ _ ⟨by rw [put_defers]; exact hd, G, Ext.refl _ _, Below.refl _ _, ?_⟩
    rw [e, ← b1]
    have := s.putO (a := a) r.dst (v := .tup []) (y := undef) (.c (.tup .nil)) rfl
    unfold skipRes
    cases hq : r.dst <;> rw [hq] at this <;> exact this
  unfold evRow at he
  unfold grdB at b2
  split at b2
  · rename_i h1 h2
    rw [h2] at he
    simp only [Region.wanted, h1, if_true]
    exact run he
  · rename_i j want t want' h1 h2
    rw [h2] at he
    simp only [Bool.and_eq_true, beq_iff_eq] at b2
    obtain ⟨c1, rfl⟩ := b2
    split at c1
    · rename_i oj hoj
      split at c1
      · rename_i d hd'
        simp only [beq_iff_eq] at c1
        subst c1
        have hv := s.get d
        simp only at he
        have hy : yielded ops a.tmps j = match a.tmps[d]? with | some (.bool b) => some b | _ => none := by
          simp only [yielded, hoj, Option.bind_some, hd']
          cases a.tmps[d]? with
          | none => rfl
          | some y => cases y <;> rfl
        simp only [Region.wanted, h1, hy]
        split at he
        · rename_i b hbb
          rw [hbb] at hv
          have e := hv.bool
          have hin : a.tmps[d]? = some (.bool b) := by
            cases hq : a.tmps[d]? with
            | none => simp [hq, undef] at e
            | some y => simp [hq] at e; rw [e]
          rw [hin]
          simp only
          split at he
          · rename_i hbw
            subst hbw
            simp only [beq_self_eq_true, if_true]
            exact run he
          · rename_i hbw
            have : (some b == some want) = false := by simp [hbw]
            rw [this]
            simp only [Bool.false_eq_true, if_false]
            cases he
            exact skip rfl
        · rename_i hbb
          rw [hbb] at hv
          obtain ⟨xs, e, hx⟩ := hv.tups
          obtain _ | _ := hx
          have : (match a.tmps[d]? with | some (.bool b) => some b | _ => none) = (none : Option Bool) := by
            cases hq : a.tmps[d]? with
            | none => rfl
            | some y => simp [hq] at e; rw [e]
          rw [this]
          simp only [Option.none_beq_some, Bool.false_eq_true, if_false]
          cases he
          exact skip rfl
        · cases he
      · cases c1
    · cases c1
  · cases b2

def evIdx (C : Env) (b0 : Nat) (rows : List PRow) : List Nat → St → Option St
  | [], st => some st
  | i :: l, st => match rows[i]? with | some r => (evRow C b0 r st).bind (evIdx C b0 rows l) | none => evIdx C b0 rows l st

theorem evIdx_range' (rows : List PRow) : ∀ (n k : Nat) (st : St), k + n = rows.length → evIdx C b0 rows (List.range' k n) st = evRows C b0 (rows.drop k) st
  | 0, k, st, h => by rw [List.drop_of_length_le (by omega)]; rfl
  | n + 1, k, st, h => by
    have hk : k < rows.length := by omega
    rw [List.range'_succ, List.drop_eq_getElem_cons hk]
    simp only [evIdx, evRows, List.getElem?_eq_getElem hk]
    congr 1
    funext s
    exact evIdx_range' rows n (k + 1) s (by omega)

theorem evIdx_range (rows : List PRow) (st : St) : evIdx C b0 rows (List.range rows.length) st = evRows C b0 rows st := by
  rw [List.range_eq_range', evIdx_range' rows rows.length 0 st (by omega)]; simp

theorem Goes.trans {w1 w2 : World} {G1 : Gh} {a2 : Act} {st : St} (E : Ext w G w1 G1) (B : Below base w w1) (h : Goes Gl base F w1 G1 a2 st w2) : Goes Gl base F w G a2 st w2 := by
  obtain ⟨hd, G2, E2, B2, s2⟩ := h
  exact ⟨hd, G2, E.trans E2, B.trans B2, s2⟩

theorem wpOps_sound (hC : EnvOK P Gl C) {ops : Array Oper} {rows : List PRow} (hb : rowsB P ops ops.toList rows = true) {Q : Exit → Act → World → Prop} : ∀ (l : List Nat) {w : World} {G : Gh} {a : Act} {st st' : St}, SR Gl base F w G a.tmps st.1 st.2 → a.defers = [] →
    evIdx C b0 rows l st = some st' → (∀ a' w', Goes Gl base F w G a' st' w' → Q .normal a' w') → wpOps P ops Q l a w
  | [], w, G, a, st, st', s, hd, he, hq => by
    simp only [evIdx, Option.some.injEq] at he
    subst he
    exact hq a w ⟨hd, G, Ext.refl _ _, Below.refl _ _, s⟩
  | i :: l, w, G, a, st, st', s, hd, he, hq => by
    obtain ⟨hlen, hget⟩ := rowsB_get hb
    simp only [wpOps]
    cases ho : ops[i]? with
    | none =>
      have : rows[i]? = none := by
        rw [List.getElem?_eq_none_iff, hlen, Array.length_toList]
        exact Array.getElem?_eq_none_iff.1 ho
      simp only [evIdx, this] at he
      exact wpOps_sound hC hb l s hd he hq
    | some o =>
      obtain ⟨r, hr, hrb⟩ := hget i o (by rw [Array.getElem?_toList]; exact ho)
      simp only [evIdx, hr, Option.bind_eq_some_iff] at he
      obtain ⟨st1, h1, h2⟩ := he
      have := row_sound hC (Q := Q) hrb s hd h1 (K := wpOps P ops Q l) (fun a' w' hg => by
        obtain ⟨hd', G', E, B, s'⟩ := hg
        exact wpOps_sound hC hb l s' hd' h2 (fun a2 w2 hg2 => hq a2 w2 (hg2.trans E B)))
      simp only
      split
      · rename_i hw; rw [if_pos hw] at this; exact .inl this
      · rename_i hw; rw [if_neg hw] at this; exact this

def dirMask (acc : List Nat) (es : List Edge) (s : Nat) : Nat := es.foldl (fun s e => if Region.binds .any e then s ||| 2 ^ e.on ||| acc.getD e.on 0 else s) s

def masksGo : List Oper → List Nat → List Nat
  | [], acc => acc
  | o :: os, acc => masksGo os (acc ++ [dirMask acc o.after.toList 0])

theorem dirMask_spec (acc : List Nat) (y : Nat) : ∀ (es : List Edge) (s : Nat), (dirMask acc es s).testBit y = true → s.testBit y = true ∨ ∃ e ∈ es, Region.binds .any e = true ∧ (y = e.on ∨ (acc.getD e.on 0).testBit y = true)
  | [], s, h => .inl h
  | e :: es, s, h => by
    simp only [dirMask, List.foldl_cons] at h
    rcases dirMask_spec acc y es _ h with h | ⟨e', h1, h2, h3⟩
    · split at h
      · rename_i hb
        simp only [Nat.testBit_or, Bool.or_eq_true, Nat.testBit_two_pow, decide_eq_true_eq] at h
        rcases h with (h | h) | h
        · exact .inl h
        · exact .inr ⟨e, List.mem_cons_self, hb, .inl h.symm⟩
        · exact .inr ⟨e, List.mem_cons_self, hb, .inr h⟩
      · exact .inl h
    · exact .inr ⟨e', List.mem_cons_of_mem _ h1, h2, h3⟩

def MaskOK (L : List Oper) (m : List Nat) : Prop := ∀ (j y : Nat), (m.getD j 0).testBit y = true → ∃ o, L[j]? = some o ∧ ∃ e ∈ o.after.toList, Region.binds .any e = true ∧ (y = e.on ∨ (e.on < j ∧ (m.getD e.on 0).testBit y = true))

theorem masksGo_ok (L : List Oper) : ∀ (os : List Oper) (acc : List Nat), L.drop acc.length = os → acc.length + os.length = L.length → MaskOK L acc → MaskOK L (masksGo os acc)
  | [], acc, _, _, h => h
  | o :: os, acc, hd, hl, h => by
    have hlt : acc.length < L.length := by simp at hl; omega
    have ho : L[acc.length]? = some o := by
      have : (L.drop acc.length)[0]? = some o := by rw [hd]; rfl
      rw [List.getElem?_drop] at this
      simpa using this
    refine masksGo_ok L os _ (by rw [List.length_append, ← List.drop_drop, hd]; rfl) (by simp at hl ⊢; omega) ?_
    intro j y hj
    have small : ∀ k, k < acc.length → (acc ++ [dirMask acc o.after.toList 0]).getD k 0 = acc.getD k 0 := by
      intro k hk
      simp only [List.getD_eq_getElem?_getD]
      rw [List.getElem?_append_left hk]
    rcases Nat.lt_trichotomy j acc.length with h1 | h1 | h1
    · rw [small j h1] at hj
      obtain ⟨o', ho', e, he, hb, hy⟩ := h j y hj
      refine ⟨o', ho', e, he, hb, hy.imp id (fun ⟨h2, h3⟩ => ⟨h2, by rw [small _ (by omega)]; exact h3⟩)⟩
    · subst h1
      have : (acc ++ [dirMask acc o.after.toList 0]).getD acc.length 0 = dirMask acc o.after.toList 0 := by simp
      rw [this] at hj
      rcases dirMask_spec acc y _ _ hj with hz | ⟨e, he, hb, hy⟩
      · simp at hz
      · refine ⟨o, ho, e, he, hb, ?_⟩
        rcases hy with hy | hy
        · exact .inl hy
        · have hlt' : e.on < acc.length := by
            rcases Nat.lt_or_ge e.on acc.length with h2 | h2
            · exact h2
            · rw [List.getD_eq_getElem?_getD, List.getElem?_eq_none h2] at hy; simp at hy
          exact .inr ⟨hlt', by rw [small _ hlt']; exact hy⟩
    · have : (acc ++ [dirMask acc o.after.toList 0]).getD j 0 = 0 := by
        rw [List.getD_eq_getElem?_getD, List.getElem?_eq_none (by simp; omega)]; rfl
      rw [this] at hj
      simp at hj

/-- The operations that may come in another order than the given one commute. -/
def drawB (ops : Array Oper) (rows : List PRow) : Bool :=
  let m := masksGo ops.toList []
  (ops.toList.zipIdx.all fun (o, j) => o.after.all fun e => !Region.binds .any e || decide (e.on < j)) &&
  (rows.zipIdx.all fun (r2, j) => (rows.take j).zipIdx.all fun (r1, i) => (m.getD j 0).testBit i || commB r1 r2)

theorem evIdx_move {rows : List PRow} {i : Nat} {c2 : List Nat} {st' : St} : ∀ (c1 : List Nat) (st : St), (∀ y ∈ c1, ∀ r1 r2, rows[y]? = some r1 → rows[i]? = some r2 → commB r1 r2 = true) → evIdx C b0 rows (c1 ++ i :: c2) st = some st' → evIdx C b0 rows (i :: (c1 ++ c2)) st = some st'
  | [], _, _, h => h
  | y :: c1, st, hc, h => by
    simp only [List.cons_append, evIdx] at h ⊢
    cases hy : rows[y]? with
    | none =>
      rw [hy] at h
      simp only at h ⊢
      exact evIdx_move c1 st (fun z hz => hc z (List.mem_cons_of_mem _ hz)) h
    | some r1 =>
      rw [hy] at h
      simp only [Option.bind_eq_some_iff] at h
      obtain ⟨s1, h1, h2⟩ := h
      have := evIdx_move c1 s1 (fun z hz => hc z (List.mem_cons_of_mem _ hz)) h2
      simp only [evIdx] at this
      cases hi : rows[i]? with
      | none =>
        rw [hi] at this
        simp only at this ⊢
        rw [h1]; exact this
      | some r2 =>
        rw [hi] at this
        simp only [Option.bind_eq_some_iff] at this ⊢
        obtain ⟨s2, h3, h4⟩ := this
        obtain ⟨s, h5, h6⟩ := row_comm (hc y List.mem_cons_self r1 r2 hy hi) h1 h3
        exact ⟨s, h5, s2, h6, h4⟩

end Go.Proofs.YteaopgkajbfkeaaGreatDoor
namespace Go.Proofs.YteaopgkajbfkeaaGreatDoor
open Go Go.RowKit

variable {Gl : Nat → Option (List AV)} {base : Nat} {F : Fr} {w : World} {G : Gh} {a : Act} {P : Program} {C : Env} {b0 : Nat}

def left (n : Nat) (listed : Array Bool) : List Nat := (List.range n).filter fun i => !listed.getD i true

theorem range_split {n i : Nat} (hi : i < n) : List.range n = List.range i ++ i :: List.range' (i + 1) (n - i - 1) := by
  rw [List.range_eq_range', List.range_eq_range', show n = i + (1 + (n - i - 1)) by omega, ← List.range'_append_1]
  congr 1
  rw [show i + (1 + (n - i - 1)) - i - 1 = n - i - 1 by omega, Nat.add_comm 1, List.range'_succ]
  simp

theorem left_split {n i : Nat} {listed : Array Bool} (hi : i < n) (hs : listed.size = n) (hu : listed.getD i true = false) :
    ∃ c1 c2, left n listed = c1 ++ i :: c2 ∧ left n (listed.setIfInBounds i true) = c1 ++ c2 ∧ (∀ y ∈ c1, y < i ∧ listed.getD y true = false) := by
  refine ⟨(List.range i).filter fun j => !listed.getD j true, (List.range' (i + 1) (n - i - 1)).filter fun j => !listed.getD j true, ?_, ?_, ?_⟩
  · unfold left
    rw [range_split hi, List.filter_append, List.filter_cons]
    simp [hu]
  · unfold left
    rw [range_split hi, List.filter_append, List.filter_cons]
    have hset : (listed.setIfInBounds i true).getD i true = true := by simp [show i < listed.size by omega]
    rw [hset]
    simp only [Bool.not_true, Bool.false_eq_true, if_false]
    congr 1
    · apply List.filter_congr
      intro j hj
      rw [getD_set_ne true (by have := List.mem_range.1 hj; omega)]
    · apply List.filter_congr
      intro j hj
      rw [getD_set_ne true (by have := (List.mem_range'_1.1 hj).1; omega)]
  · intro y hy
    simp only [List.mem_filter, List.mem_range, Bool.not_eq_true'] at hy
    exact hy

theorem any_sound (hC : EnvOK P Gl C) {ops : Array Oper} {rows : List PRow} (hb : rowsB P ops ops.toList rows = true) (hdr : drawB ops rows = true) {Q : Exit → Act → World → Prop} :
    ∀ (fuel : Nat) (listed : Array Bool) {w : World} {G : Gh} {a : Act} {st st' : St}, listed.size = ops.size → (left ops.size listed).length ≤ fuel →
      (∀ j o, ops[j]? = some o → listed.getD j true = true → ∀ e ∈ o.after, Region.binds .any e = true → listed.getD e.on false = true) →
      SR Gl base F w G a.tmps st.1 st.2 → a.defers = [] → evIdx C b0 rows (left ops.size listed) st = some st' → (∀ a' w', Goes Gl base F w G a' st' w' → Q .normal a' w') → wpAny P .any ops Q fuel listed a w := by
  obtain ⟨hlen, hget⟩ := rowsB_get hb
  simp only [drawB, Bool.and_eq_true] at hdr
  obtain ⟨hd1, hd2⟩ := hdr
  have edges : ∀ (j : Nat) o, ops[j]? = some o → ∀ e ∈ o.after, Region.binds .any e = true → e.on < j := by
    intro j o ho e he hbn
    rw [List.all_eq_true] at hd1
    have := hd1 (o, j) (by rw [List.mk_mem_zipIdx_iff_getElem?, Array.getElem?_toList]; exact ho)
    simp only [Array.all_eq_true_iff_forall_mem, Bool.or_eq_true, Bool.not_eq_true', decide_eq_true_eq] at this
    rcases this e he with h | h
    · rw [hbn] at h; cases h
    · exact h
  have comm : ∀ (i j : Nat) r1 r2, i < j → rows[i]? = some r1 → rows[j]? = some r2 → ((masksGo ops.toList []).getD j 0).testBit i = false → commB r1 r2 = true := by
    intro i j r1 r2 hij h1 h2 hm
    rw [List.all_eq_true] at hd2
    have := hd2 (r2, j) (by rw [List.mk_mem_zipIdx_iff_getElem?]; exact h2)
    simp only [List.all_eq_true] at this
    have := this (r1, i) (by rw [List.mk_mem_zipIdx_iff_getElem?, List.getElem?_take_of_lt hij]; exact h1)
    rw [Bool.or_eq_true, hm] at this
    rcases this with h | h
    · cases h
    · exact h
  have mok : MaskOK ops.toList (masksGo ops.toList []) := masksGo_ok ops.toList ops.toList [] rfl (by simp) (by intro j y hj; simp at hj)
  -- who is not listed is not among those that must come first
  have notpred : ∀ (listed : Array Bool), (∀ j o, ops[j]? = some o → listed.getD j true = true → ∀ e ∈ o.after, Region.binds .any e = true → listed.getD e.on false = true) →
      ∀ (j : Nat), (∀ o, ops[j]? = some o → ∀ e ∈ o.after, Region.binds .any e = true → listed.getD e.on false = true) → ∀ y, ((masksGo ops.toList []).getD j 0).testBit y = true → listed.getD y false = true := by
    intro listed hdc j
    induction j using Nat.strongRecOn with
    | _ j ih =>
      intro hj y hy
      obtain ⟨o, ho, e, he, hbn, hh⟩ := mok j y hy
      rw [Array.getElem?_toList] at ho
      have hel := hj o ho e (by simpa using he) hbn
      rcases hh with rfl | ⟨hlt, hy2⟩
      · exact hel
      · refine ih e.on hlt (fun o' ho' e' he' hb' => hdc e.on o' ho' ?_ e' he' hb') y hy2
        rw [Array.getD_eq_getD_getElem?] at hel ⊢
        cases hq : listed[e.on]? with
        | none => rfl
        | some b => rw [hq] at hel; exact hel
  intro fuel
  induction fuel with
  | zero =>
    intro listed w G a st st' hs hf hdc s hd he hq
    have hnil : left ops.size listed = [] := List.length_eq_zero_iff.1 (by omega)
    rw [hnil] at he
    simp only [evIdx, Option.some.injEq] at he
    subst he
    refine ⟨?_, hq a w ⟨hd, G, Ext.refl _ _, Below.refl _ _, s⟩⟩
    cases hr : Region.ready .any ops listed with
    | nil => rfl
    | cons i rs =>
      have hi : i ∈ Region.ready .any ops listed := by rw [hr]; simp
      obtain ⟨hu, o, ho, _⟩ := mem_ready.1 hi
      have : i ∈ left ops.size listed := by
        simp only [left, List.mem_filter, List.mem_range, hu, Bool.not_false, and_true]
        exact (Array.getElem?_eq_some_iff.1 ho).1
      rw [hnil] at this; cases this
  | succ fuel ih =>
    intro listed w G a st st' hs hf hdc s hd he hq
    refine ⟨fun hr => ?_, fun i hi => ?_⟩
    · -- nothing is ready: nothing is left
      have hnil : left ops.size listed = [] := by
        cases hl : left ops.size listed with
        | nil => rfl
        | cons m c =>
          exfalso
          have hm : m ∈ left ops.size listed := by rw [hl]; simp
          simp only [left, List.mem_filter, List.mem_range, Bool.not_eq_true'] at hm
          have ho := Array.getElem?_eq_getElem hm.1
          have : m ∈ Region.ready .any ops listed := by
            refine mem_ready.2 ⟨hm.2, _, ho, fun e hea hbn => ?_⟩
            have hlt := edges m _ ho e hea hbn
            cases hq2 : listed.getD e.on false with
            | true => rfl
            | false =>
              exfalso
              have hmem : e.on ∈ left ops.size listed := by
                simp only [left, List.mem_filter, List.mem_range]
                refine ⟨by omega, ?_⟩
                have hsz : e.on < listed.size := by omega
                simp [hsz] at hq2 ⊢
                exact hq2
              rw [hl] at hmem
              have hsorted : (left ops.size listed).Pairwise (· < ·) := List.Pairwise.filter _ (List.pairwise_lt_range)
              rw [hl, List.pairwise_cons] at hsorted
              rcases List.mem_cons.1 hmem with h | h
              · omega
              · have := hsorted.1 _ h; omega
          rw [hr] at this; cases this
      rw [hnil] at he
      simp only [evIdx, Option.some.injEq] at he
      subst he
      exact hq a w ⟨hd, G, Ext.refl _ _, Below.refl _ _, s⟩
    · obtain ⟨hu, o, ho, hall⟩ := mem_ready.1 hi
      have hin : i < ops.size := (Array.getElem?_eq_some_iff.1 ho).1
      obtain ⟨r, hr, hrb⟩ := hget i o (by rw [Array.getElem?_toList]; exact ho)
      obtain ⟨c1, c2, e1, e2, e3⟩ := left_split hin hs hu
      rw [e1] at he
      have hmv := evIdx_move c1 st (fun y hy r1 r2 h1 h2 => by
        refine comm y i r1 r2 (e3 y hy).1 h1 h2 ?_
        cases hb2 : ((masksGo ops.toList []).getD i 0).testBit y with
        | false => rfl
        | true =>
          have := notpred listed hdc i (fun o' ho' => by rw [ho] at ho'; cases ho'; exact hall) y hb2
          have h3 := (e3 y hy).2
          have hsz : y < listed.size := by have := (e3 y hy).1; omega
          simp [hsz] at this h3
          rw [this] at h3; cases h3) he
      simp only [evIdx, hr, Option.bind_eq_some_iff] at hmv
      obtain ⟨st1, h1, h2⟩ := hmv
      unfold wpOp
      rw [ho]
      simp only
      have := row_sound hC (Q := Q) hrb s hd h1 (K := wpAny P .any ops Q fuel (listed.setIfInBounds i true)) (fun a' w' hg => by
        obtain ⟨hd', G', E, B, s'⟩ := hg
        refine ih (listed.setIfInBounds i true) (by simpa using hs) ?_ ?_ s' hd' (by rw [e2]; exact h2) (fun a2 w2 hg2 => hq a2 w2 (hg2.trans E B))
        · rw [e2]; rw [e1] at hf; simp at hf ⊢; omega
        · intro j oj hoj hlj e hea hbn
          by_cases hij : i = j
          · subst hij
            rw [ho] at hoj
            cases hoj
            exact getD_set_true (hall e hea hbn)
          · rw [getD_set_ne true hij] at hlj
            exact getD_set_true (hdc j oj hoj hlj e hea hbn))
      split
      · rename_i hw; rw [if_pos hw] at this; exact .inl this
      · rename_i hw; rw [if_neg hw] at this; exact this

/-- The model's code and the resolved one: the same. -/
def codeB (P : Program) : Code → PCode → Bool
  | _, .bad => true
  | .skip, .skip => true
  | .region _ ops draw, .rows l => rowsB P ops ops.toList l && (!draw || drawB ops l)
  | .seq a b, .seq a' b' => codeB P a a' && codeB P b b'
  | .cond c a b, .cond c' a' b' => opdB c c' && codeB P a a' && codeB P b b'
  | .block i a, .block i' a' => i == i' && codeB P a a'
  | .loop a, .loop _ a' => codeB P a a'
  | a, .holes _ a' => codeB P a a'
  | .exit i, .exit i' => i == i'
  | .ret, .ret => true
  | _, _ => false

def Ex.toExit : Ex → Exit
  | .nrm => .normal
  | .exit i => .exit i
  | .ret => .ret

theorem forget_ok {tmps : Array Value} {sl : List AV} {h : Store} (s : SR Gl base F w G tmps sl h) (keep : List Bool) : SR Gl base F w G tmps (forgetL keep sl) h := by
  have V : ∀ {ks : List Bool} {vs : List AV} {xs : List Value}, VRs w G vs xs → VRs w G (forgetL ks vs) xs := by
    intro ks
    induction ks with
    | nil => intro vs xs hv; cases vs <;> exact hv
    | cons k ks ih =>
      intro vs xs hv
      cases vs with
      | nil => exact hv
      | cons v vs =>
        obtain _ | ⟨h1, h2⟩ := hv
        refine .cons ?_ (ih h2)
        cases k
        · exact .c (.any _)
        · exact h1
  have L : ∀ (ks : List Bool) (vs : List AV), (forgetL ks vs).length = vs.length := by
    intro ks
    induction ks with
    | nil => intro vs; cases vs <;> rfl
    | cons k ks ih => intro vs; cases vs <;> simp [forgetL, ih]
  have T : ∀ (ks : List Bool) (vs : List AV) (i : Nat) (v : AV), (forgetL ks vs)[i]? = some v → v = .any ∨ vs[i]? = some v := by
    intro ks
    induction ks with
    | nil => intro vs i v h; cases vs <;> exact .inr h
    | cons k ks ih =>
      intro vs i v h
      cases vs with
      | nil => exact .inr h
      | cons u vs =>
        cases i with
        | zero =>
          simp only [forgetL, List.getElem?_cons_zero, Option.some.injEq] at h
          cases k
          · exact .inl h.symm
          · exact .inr (by simpa using h)
        | succ i => simpa using ih vs i v (by simpa [forgetL] using h)
  refine s.of_sub (by rw [L]; exact s.size) (V s.vals) ?_
  intro l t a
  cases a with
  | cell hb hv hr hx ht => exact .cell hb hv hr hx ht
  | fr ht => exact .fr ht
  | @slot i v x t hv hx ht =>
    rcases T keep sl i v hv with rfl | h1
    · cases ht
    · exact .slot h1 hx ht

theorem holes_ok : ∀ (ds : List Nat) {tmps : Array Value} {st : St}, SR Gl base F w G tmps st.1 st.2 → SR Gl base F w G tmps (mkHoles ds st).1 (mkHoles ds st).2
  | [], _, _, s => s
  | d :: ds, tmps, st, s => by
    refine holes_ok ds (st := (st.1.set d (.hole st.2.length), st.2 ++ [⟨[], 0, true, false⟩])) ?_
    refine (s.hole (b := ⟨[], 0, true, false⟩) rfl).of_sub (by simpa using s.size) ?_ ?_
    · refine VRs.of_get (by simpa using s.size) ?_
      intro j v x hv hx
      by_cases hd : d = j
      · subst hd
        have hlt : d < st.1.length := by
          have := (List.getElem?_eq_some_iff.1 hv).1
          simpa using this
        rw [List.getElem?_set_self hlt] at hv
        cases hv
        exact .c (.hole _ _)
      · rw [List.getElem?_set_ne hd] at hv
        obtain ⟨x', hx', h'⟩ := s.vals.get hv
        rw [hx] at hx'
        cases hx'
        exact h'
    · intro l t a
      cases a with
      | cell hb hv hr hx ht => exact .cell hb hv hr hx ht
      | fr ht => exact .fr ht
      | @slot i v x t hv hx ht =>
        by_cases hd : d = i
        · subst hd
          have hlt : d < st.1.length := by
            have := (List.getElem?_eq_some_iff.1 hv).1
            simpa using this
          rw [List.getElem?_set_self hlt] at hv
          cases hv
          cases ht
        · rw [List.getElem?_set_ne hd] at hv
          exact .slot hv hx ht

/-- A loop whose rounds are counted. -/
theorem wp_loop_count {c : Code} {Q : Exit → Act → World → Prop} (I : Nat → Act → World → Prop) (round : ∀ n a w, I n a w → c.wp P (Exit.then (fun a' w' => ∃ m, m < n ∧ I m a' w') Q) a w) {n : Nat} (h0 : I n a w) : (Code.loop c).wp P Q a w := by
  intro b k cs
  have key : ∀ n a w, I n a w → ∃ e a' w', Q e a' w' ∧ Arrives P (lone (b.at a (.code c :: .inLoop c :: k)) cs w) b k cs e a' w' := by
    intro n
    induction n using Nat.strongRecOn with
    | _ n ih =>
      intro a w hI
      obtain ⟨e, a₁, w₁, hq, harr⟩ := round n a w hI b (.inLoop c :: k) cs
      cases e with
      | normal =>
        obtain ⟨m, hlt, hI₁⟩ := hq
        obtain ⟨e₂, a₂, w₂, hq₂, harr₂⟩ := ih m hlt a₁ w₁ hI₁
        exact ⟨e₂, a₂, w₂, hq₂, .of_steps (Steps.trans harr (.one step_inLoop)) harr₂⟩
      | exit id => exact ⟨_, a₁, w₁, hq, .pass (x := .inLoop c) rfl (fun _ _ => .inl (by simp)) harr⟩
      | goto l => exact ⟨_, a₁, w₁, hq, .pass (x := .inLoop c) rfl (fun _ _ => .inl (by simp)) harr⟩
      | ret => exact ⟨_, a₁, w₁, hq, .pass (x := .inLoop c) rfl (fun _ _ => .inl (by simp)) harr⟩
      | panic ch => exact ⟨_, a₁, w₁, hq, .pass (x := .inLoop c) rfl (fun _ _ => .inl (by simp)) harr⟩
      | outgrown => exact ⟨_, a₁, w₁, hq, .pass (x := .inLoop c) rfl (fun _ _ => .inl (by simp)) harr⟩
  obtain ⟨e, a', w', hq, harr⟩ := key n a w h0
  exact ⟨e, a', w', hq, .of_steps (.one step_loop) harr⟩

theorem code_sound (hC : EnvOK P Gl C) (hm : P.follows .mixedOrders = true) (n : Nat) : ∀ (pc : PCode) (c : Code), codeB P c pc = true → ∀ {w : World} {G : Gh} {a : Act} {st st' : St} {ex : Ex} {Q : Exit → Act → World → Prop},
    SR Gl base F w G a.tmps st.1 st.2 → a.defers = [] → evCode C b0 n pc st = some (ex, st') → (∀ a' w', Goes Gl base F w G a' st' w' → Q ex.toExit a' w') → c.wp P Q a w := by
  intro pc
  induction pc with
  | skip =>
    intro c hc w G a st st' ex Q s hd he hq
    cases c <;> simp only [codeB, Bool.false_eq_true] at hc
    simp only [evCode, Option.some.injEq, Prod.mk.injEq] at he
    obtain ⟨rfl, rfl⟩ := he
    exact wp_skip (hq a w ⟨hd, G, Ext.refl _ _, Below.refl _ _, s⟩)
  | bad => intro c hc w G a st st' ex Q s hd he hq; simp only [evCode, reduceCtorEq] at he
  | exit i =>
    intro c hc w G a st st' ex Q s hd he hq
    cases c <;> simp only [codeB, Bool.false_eq_true, beq_iff_eq] at hc
    subst hc
    simp only [evCode, Option.some.injEq, Prod.mk.injEq] at he
    obtain ⟨rfl, rfl⟩ := he
    exact wp_exit (hq a w ⟨hd, G, Ext.refl _ _, Below.refl _ _, s⟩)
  | ret =>
    intro c hc w G a st st' ex Q s hd he hq
    cases c <;> simp only [codeB, Bool.false_eq_true] at hc
    simp only [evCode, Option.some.injEq, Prod.mk.injEq] at he
    obtain ⟨rfl, rfl⟩ := he
    exact wp_ret (hq a w ⟨hd, G, Ext.refl _ _, Below.refl _ _, s⟩)
  | rows l =>
    intro c hc w G a st st' ex Q s hd he hq
    cases c <;> simp only [codeB, Bool.false_eq_true, Bool.and_eq_true] at hc
    rename_i id ops draw
    obtain ⟨hb, hdr⟩ := hc
    simp only [evCode, Option.map_eq_some_iff, Prod.mk.injEq] at he
    obtain ⟨st1, h1, rfl, rfl⟩ := he
    obtain ⟨hlen, _⟩ := rowsB_get hb
    rw [← evIdx_range, hlen, Array.length_toList] at h1
    cases draw with
    | false => exact wp_region (wpOps_sound hC hb _ s hd h1 hq)
    | true =>
      simp only [Bool.not_true, Bool.false_or] at hdr
      refine wp_region_any hm ?_
      have hleft : left ops.size (Array.replicate ops.size false) = List.range ops.size := by
        unfold left
        rw [List.filter_eq_self]
        intro i hi
        have := List.mem_range.1 hi
        simp [this]
      have sd := s.drew
      refine any_sound hC hb hdr ops.size (Array.replicate ops.size false) (w := w.drew) (G := G) (by simp) (by rw [hleft]; simp) ?_ sd hd (by rw [hleft]; exact h1) (fun a' w' hg => hq a' w' (hg.trans (drew_ext w G) (below_drew base w)))
      intro j o hj hl
      have : j < ops.size := (Array.getElem?_eq_some_iff.1 hj).1
      simp [this] at hl
  | seq x y ihx ihy =>
    intro c hc w G a st st' ex Q s hd he hq
    cases c <;> simp only [codeB, Bool.false_eq_true, Bool.and_eq_true] at hc
    simp only [evCode] at he
    split at he
    · rename_i st1 h1
      refine wp_seq (ihx _ hc.1 s hd h1 (fun a' w' hg => ?_))
      obtain ⟨hd', G', E, B, s'⟩ := hg
      exact ihy _ hc.2 s' hd' he (fun a2 w2 hg2 => hq a2 w2 (hg2.trans E B))
    · rename_i r hr hne
      refine wp_seq (ihx _ hc.1 s hd he (fun a' w' hg => ?_))
      have hex : ex ≠ .nrm := fun e => by subst e; exact hne _ he
      cases ex with
      | nrm => exact absurd rfl hex
      | exit i => exact hq a' w' hg
      | ret => exact hq a' w' hg
  | cond p x y ihx ihy =>
    intro c hc w G a st st' ex Q s hd he hq
    cases c <;> simp only [codeB, Bool.false_eq_true, Bool.and_eq_true] at hc
    obtain ⟨⟨b1, b2⟩, b3⟩ := hc
    have hv := opdB_ok s b1
    simp only [evCode] at he
    split at he
    · rename_i t ht
      rw [ht] at hv
      refine wp_cond hv.bool ?_
      cases t
      · simp only [Bool.false_eq_true, if_false] at he ⊢
        exact ihy _ b3 s hd he hq
      · simp only [if_true] at he ⊢
        exact ihx _ b2 s hd he hq
    · cases he
  | block i x ih =>
    intro c hc w G a st st' ex Q s hd he hq
    cases c <;> simp only [codeB, Bool.false_eq_true, Bool.and_eq_true, beq_iff_eq] at hc
    obtain ⟨rfl, b2⟩ := hc
    simp only [evCode] at he
    split at he
    · rename_i j st1 h1
      split at he
      · rename_i hj
        simp only [Option.some.injEq, Prod.mk.injEq] at he
        obtain ⟨rfl, rfl⟩ := he
        refine wp_block (ih _ b2 s hd h1 (fun a' w' hg => ?_))
        simp only [Ex.toExit, Exit.inBlock, hj, if_true]
        exact hq a' w' hg
      · rename_i hj
        simp only [Option.some.injEq, Prod.mk.injEq] at he
        obtain ⟨rfl, rfl⟩ := he
        refine wp_block (ih _ b2 s hd h1 (fun a' w' hg => ?_))
        simp only [Ex.toExit, Exit.inBlock, hj, if_false]
        exact hq a' w' hg
    · rename_i r hr hne
      refine wp_block (ih _ b2 s hd he (fun a' w' hg => ?_))
      cases ex with
      | nrm => exact hq a' w' hg
      | exit i => exact absurd he (hne i _)
      | ret => exact hq a' w' hg
  | holes ds x ih =>
    intro c hc w G a st st' ex Q s hd he hq
    have hc' : codeB P c x = true := by cases c <;> exact hc
    exact ih c hc' (holes_ok ds s) hd he hq
  | loop keep x ih =>
    intro c hc w G a st st' ex Q s hd he hq
    cases c <;> simp only [codeB, Bool.false_eq_true] at hc
    rename_i body
    simp only [evCode] at he
    let I : Nat → Act → World → Prop := fun k a1 w1 => ∃ st1 G1, a1.defers = [] ∧ Ext w G w1 G1 ∧ Below base w w1 ∧ SR Gl base F w1 G1 a1.tmps st1.1 st1.2 ∧ loopN (fun s => evCode C b0 n x (forgetBut keep s)) k st1 = some (ex, st')
    refine wp_loop_count I ?_ (n := n) ⟨st, G, hd, Ext.refl _ _, Below.refl _ _, s, he⟩
    rintro k a1 w1 ⟨st1, G1, hd1, E1, B1, s1, h1⟩
    cases k with
    | zero => simp only [loopN] at h1; cases h1
    | succ k =>
      simp only [loopN] at h1
      have sf : SR Gl base F w1 G1 a1.tmps (forgetBut keep st1).1 (forgetBut keep st1).2 := forget_ok s1 keep
      split at h1
      · rename_i st2 h2
        refine ih _ hc sf hd1 h2 (fun a' w' hg => ?_)
        obtain ⟨hd', G', E, B, s'⟩ := hg
        exact ⟨k, by omega, st2, G', hd', E1.trans E, B1.trans B, s', h1⟩
      · rename_i hne
        refine ih _ hc sf hd1 h1 (fun a' w' hg => ?_)
        have hex : ex ≠ .nrm := fun e => by subst e; exact hne _ h1
        cases ex with
        | nrm => exact absurd rfl hex
        | exit i => exact hq a' w' (hg.trans E1 B1)
        | ret => exact hq a' w' (hg.trans E1 B1)

end Go.Proofs.YteaopgkajbfkeaaGreatDoor
namespace Go.Proofs.YteaopgkajbfkeaaGreatDoor
open Go Go.RowKit

variable {Gl : Nat → Option (List AV)} {base : Nat} {F : Fr} {w : World} {G : Gh} {a : Act} {P : Program} {C : Env} {b0 : Nat}

mutual
def ltB (n : Nat) : AV → Bool
  | .osl b _ _ cap => decide (b < n) || cap == 0
  | .ref b _ => decide (b < n)
  | .agg cs => ltBs n cs
  | .tup cs => ltBs n cs
  | .fn _ xs ys => ltBs n xs && ltBs n ys
  | _ => true
def ltBs (n : Nat) : List AV → Bool
  | [] => true
  | v :: vs => ltB n v && ltBs n vs
end

theorem ltBs_all {n : Nat} : ∀ {vs : List AV}, ltBs n vs = true ↔ ∀ v ∈ vs, ltB n v = true
  | [] => by simp [ltBs]
  | v :: vs => by simp [ltBs, ltBs_all (vs := vs)]

mutual
theorem VC.lt {n : Nat} : ∀ {v : AV} {x : Value}, VC w G v x → ltB n v = true
  | _, _, .bool _ => rfl
  | _, _, .int _ _ => rfl
  | _, _, .str _ => rfl
  | _, _, .nilp => rfl
  | _, _, .nilf => rfl
  | _, _, .nili => rfl
  | _, _, .nils => rfl
  | _, _, .agg h _ => by simp only [ltB]; exact VCs.lt h
  | _, _, .tup h => by simp only [ltB]; exact VCs.lt h
  | _, _, .sl .. => rfl
  | _, _, .eref .. => rfl
  | _, _, .fn _ h h' => by simp only [ltB, Bool.and_eq_true]; exact ⟨VCs.lt h, VCs.lt h'⟩
  | _, _, .iface _ _ => rfl
  | _, _, .gptr _ _ => rfl
  | _, _, .any _ => rfl
  | _, _, .hole _ _ => rfl
  | _, _, .z _ _ _ _ => rfl
theorem VCs.lt {n : Nat} : ∀ {v : List AV} {x : List Value}, VCs w G v x → ltBs n v = true
  | _, _, .nil => rfl
  | _, _, .cons h t => by simp only [ltBs, Bool.and_eq_true]; exact ⟨VC.lt h, VCs.lt t⟩
end

mutual
theorem VR.lt {n : Nat} (hn : ∀ (b r : Nat), G.loc b = some r → b < n) : ∀ {v : AV} {x : Value}, VR w G v x → ltB n v = true
  | _, _, .c h => h.lt
  | _, _, .gsl _ => rfl
  | _, _, .osl (b := b) (cap := cap) _ _ _ ha => by
    simp only [ltB, Bool.or_eq_true, decide_eq_true_eq, beq_iff_eq]
    rcases Nat.eq_zero_or_pos cap with h | h
    · exact .inr h
    · obtain ⟨r, hr, _⟩ := ha h
      exact .inl (hn _ _ hr)
  | _, _, .ref h => by simp only [ltB, decide_eq_true_eq]; exact hn _ _ h
  | _, _, .agg h _ => by simp only [ltB]; exact VRs.lt hn h
  | _, _, .tup h => by simp only [ltB]; exact VRs.lt hn h
  | _, _, .fn _ h h' => by simp only [ltB, Bool.and_eq_true]; exact ⟨VRs.lt hn h, VRs.lt hn h'⟩
theorem VRs.lt {n : Nat} (hn : ∀ (b r : Nat), G.loc b = some r → b < n) : ∀ {v : List AV} {x : List Value}, VRs w G v x → ltBs n v = true
  | _, _, .nil => rfl
  | _, _, .cons h t => by simp only [ltBs, Bool.and_eq_true]; exact ⟨VR.lt hn h, VRs.lt hn t⟩
end

/-- The blocks below a number alone. -/
def Gh.cut (G : Gh) (n : Nat) : Gh := ⟨G.role, fun b => if b < n then G.loc b else none⟩

theorem VC.recut {n : Nat} {v : AV} {x : Value} (h : VC w G v x) : VC w (G.cut n) v x := by
  refine VC.ext (w := w) (G := G) ?_ h
  intro k o x hx hi
  exact ⟨hx, hi⟩

mutual
theorem VR.cut {n : Nat} : ∀ {v : AV} {x : Value}, VR w G v x → ltB n v = true → VR w (G.cut n) v x
  | _, _, .c h, _ => .c h.recut
  | _, _, .gsl h, _ => .gsl h.recut
  | _, _, .osl hs hl hc ha, h => .osl hs hl hc (fun p => by
      obtain ⟨r, hr, e⟩ := ha p
      simp only [ltB, Bool.or_eq_true, decide_eq_true_eq, beq_iff_eq] at h
      exact ⟨r, by simp only [Gh.cut]; rw [if_pos (by omega)]; exact hr, e⟩)
  | _, _, .ref hr, h => .ref (by simp only [ltB, decide_eq_true_eq] at h; simp only [Gh.cut]; rw [if_pos h]; exact hr)
  | _, _, .agg hv ho, h => .agg (VRs.cut hv (by simpa only [ltB] using h)) ho
  | _, _, .tup hv, h => .tup (VRs.cut hv (by simpa only [ltB] using h))
  | _, _, .fn f hv hv', h => .fn f (VRs.cut hv (by simp only [ltB, Bool.and_eq_true] at h; exact h.1)) (VRs.cut hv' (by simp only [ltB, Bool.and_eq_true] at h; exact h.2))
theorem VRs.cut {n : Nat} : ∀ {v : List AV} {x : List Value}, VRs w G v x → ltBs n v = true → VRs w (G.cut n) v x
  | _, _, .nil, _ => .nil
  | _, _, .cons h t, hl => by
    simp only [ltBs, Bool.and_eq_true] at hl
    exact .cons (VR.cut h hl.1) (VRs.cut t hl.2)
end

theorem lower_lt (m : Nat) : ∀ (d : Nat) (v : AV), AV.lowerN 0 d v = true → ltB m v = true
  | 0, v, h => by simp [AV.lowerN] at h
  | d + 1, v, h => by
    have L : ∀ vs : List AV, vs.all (AV.lowerN 0 d) = true → ltBs m vs = true := fun vs hv => ltBs_all.2 (fun v hm => lower_lt m d v (List.all_eq_true.1 hv v hm))
    cases v <;> simp only [AV.lowerN, ltB, Bool.and_eq_true, decide_eq_true_eq, Nat.not_lt_zero] at h ⊢
    · exact L _ h
    · exact L _ h
    · exact ⟨L _ h.1, L _ h.2⟩

theorem lt_untip {m : Nat} {v : AV} (h : ltB m v = true) : ltB m v.untip = true := by cases v <;> first | exact h | rfl

theorem cellsOf_lt {m : Nat} {v : AV} {cs : List AV} (hc : v.cellsOf = some cs) (h : ltB m v = true) : ltBs m (cs.map AV.untip) = true := by
  refine ltBs_all.2 (fun u hu => ?_)
  obtain ⟨c, hc', rfl⟩ := List.mem_map.1 hu
  refine lt_untip ?_
  cases v
  case agg vs =>
    simp only [AV.cellsOf, Option.some.injEq] at hc
    subst hc
    simp only [ltB] at h
    exact ltBs_all.1 h c hc'
  all_goals
    simp only [AV.cellsOf] at hc
    split at hc
    · cases hc
      simp only [List.mem_singleton] at hc'
      subst hc'
      exact h
    · cases hc

/-- Blocks below a number hold addresses below it alone. -/
def Low (m : Nat) (h : Store) : Prop := ∀ (b : Nat) blk, b < m → h[b]? = some blk → blk.esz ≠ 0 → ltBs m blk.cells = true

/-- A computation on the blocks that keeps to its own. -/
def Keeps (h h' : Store) : Prop := h.length ≤ h'.length ∧ ∀ m, m ≤ h.length → Low m h → Low m h'

structure EnvLow (C : Env) : Prop where
  m : ∀ g us h v h', C.m g us h = some (v, h') → Keeps h h'
  k : ∀ g us h v h', C.k g us h = some (v, h') → Keeps h h'

def KeepsB (b0 : Nat) (h h' : Store) : Prop := h.length ≤ h'.length ∧ ∀ m, m ≤ b0 → Low m h → Low m h'

theorem KeepsB.refl (b0 : Nat) (h : Store) : KeepsB b0 h h := ⟨Nat.le_refl _, fun _ _ h => h⟩
theorem KeepsB.trans {h h' h'' : Store} (a : KeepsB b0 h h') (b : KeepsB b0 h' h'') : KeepsB b0 h h'' := ⟨Nat.le_trans a.1 b.1, fun m hm hl => b.2 m hm (a.2 m hm hl)⟩
theorem KeepsB.app {h : Store} (x : Blk) (hb : b0 ≤ h.length) : KeepsB b0 h (h ++ [x]) := by
  refine ⟨by simp, fun m hm hl b blk hbm hb2 => ?_⟩
  rw [List.getElem?_append_left (by omega)] at hb2
  exact hl b blk hbm hb2

theorem sealAll_get (l : List Nat) : ∀ (h : Store), (sealAll h l).length = h.length ∧ ∀ (b : Nat) blk, (sealAll h l)[b]? = some blk → ∃ blk0, h[b]? = some blk0 ∧ blk0.cells = blk.cells ∧ blk0.esz = blk.esz ∧ blk0.ag = blk.ag := by
  induction l with
  | nil => exact fun h => ⟨rfl, fun b blk hb => ⟨blk, hb, rfl, rfl, rfl⟩⟩
  | cons c l ih =>
    intro h
    obtain ⟨i1, i2⟩ := ih (h.modify c fun blk => { blk with ro := true })
    refine ⟨by show (sealAll (h.modify c _) l).length = _; rw [i1]; simp, fun b blk hb => ?_⟩
    obtain ⟨blk1, h1, e1, e2, e3⟩ := i2 b blk hb
    rw [List.getElem?_modify] at h1
    cases hb0 : h[b]? with
    | none => rw [hb0] at h1; cases h1
    | some x =>
      rw [hb0] at h1
      by_cases hcb : c = b
      · simp [hcb] at h1
        subst h1
        exact ⟨x, rfl, e1, e2, e3⟩
      · simp [hcb] at h1
        subst h1
        exact ⟨x, rfl, e1, e2, e3⟩

theorem op_low (hC : EnvLow C) {op : POp} {sl : List AV} {h h' : Store} {v : AV} (hb : b0 ≤ h.length) (he : evOp C b0 op sl h = some (v, h')) : KeepsB b0 h h' := by
  have toB : ∀ {h h' : Store}, b0 ≤ h.length → Keeps h h' → KeepsB b0 h h' := fun hb hk => ⟨hk.1, fun m hm hl => hk.2 m (Nat.le_trans hm hb) hl⟩
  cases hm : op.mk with
  | N => obtain ⟨rfl, _⟩ := evOp_N hm he; exact .refl _ _
  | R => obtain ⟨rfl, _⟩ := evOp_R hm he; exact .refl _ _
  | A => obtain ⟨x, rfl⟩ := evOp_A hm he; exact .app x hb
  | H =>
    cases op <;> simp only [POp.mk, reduceCtorEq] at hm
    case buildSl own _ _ _ _ _ => cases own <;> simp at hm
    case mksl own _ _ _ _ _ => cases own <;> simp at hm
    case conv c _ => cases c <;> simp [POp.mk] at hm
    case allocH d esz ag zero =>
      simp only [evOp] at he
      split at he
      · rename_i n hn
        split at he
        · split at he
          · rename_i hc
            cases he
            refine ⟨by simp, fun m hm hl b' blk' hbm hb' => ?_⟩
            rw [List.getElem?_set_ne (by omega)] at hb'
            exact hl b' blk' hbm hb'
          · cases he
        · cases he
      · cases he
  | W =>
    cases op <;> simp only [POp.mk, reduceCtorEq] at hm
    case buildSl own _ _ _ _ _ => cases own <;> simp at hm
    case mksl own _ _ _ _ _ => cases own <;> simp at hm
    case conv c _ => cases c <;> simp [POp.mk] at hm
    case store sz p q =>
      simp only [evOp] at he
      generalize POpd.get sl p = u at he
      generalize POpd.get sl q = x at he
      cases u <;> simp only [reduceCtorEq] at he
      rename_i b off
      cases hbk : getB h b with
      | none => rw [hbk] at he; simp only [reduceCtorEq] at he
      | some blk =>
        cases hc : x.cellsOf with
        | none => rw [hbk, hc] at he; simp only [reduceCtorEq] at he
        | some cs =>
          rw [hbk, hc] at he
          simp only at he
          split at he
          · rename_i hcond
            simp only [Option.some.injEq, Prod.mk.injEq] at he
            obtain ⟨_, rfl⟩ := he
            refine ⟨by simp, fun m hm hl b' blk' hbm hb' => ?_⟩
            by_cases hbb : b = b'
            · subst hbb
              rw [List.getElem?_set_self (by
                rcases Nat.lt_or_ge b h.length with h1 | h1
                · exact h1
                · have := (getB_some hbk).1; rw [List.getElem?_eq_none h1] at this; cases this)] at hb'
              cases hb'
              have hlow : ltB m x = true := by
                rcases hcond.2.2.2 with h1 | h1
                · omega
                · exact lower_lt m 4 x h1
              intro hz
              refine ltBs_all.2 (fun u hu => ?_)
              have hold := ltBs_all.1 (hl b blk hbm (getB_some hbk).1 hz)
              simp only [splice, List.mem_append] at hu
              rcases hu with (hu | hu) | hu
              · exact hold u (List.mem_of_mem_take hu)
              · exact ltBs_all.1 (cellsOf_lt hc hlow) u hu
              · exact hold u (List.mem_of_mem_drop hu)
            · rw [List.getElem?_set_ne hbb] at hb'
              exact hl b' blk' hbm hb'
          · cases he
    case callqs g ps =>
      simp only [evOp, Option.bind_eq_some_iff, Option.map_eq_some_iff, Prod.mk.injEq] at he
      obtain ⟨us, hus, v0, hv0, rfl, rfl⟩ := he
      obtain ⟨i1, i2⟩ := sealAll_get (ps.flatMap fun x => reachN h 8 (POpd.get sl x)) h
      refine ⟨by rw [i1]; exact Nat.le_refl _, fun m hm hl b blk hbm hbk => ?_⟩
      obtain ⟨blk0, h0, e, e2, _⟩ := i2 b blk hbk
      rw [← e, ← e2]
      exact hl b blk0 hbm h0
    case loadT p =>
      simp only [evOp] at he
      split at he
      · split at he
        · rename_i b off _ _ blk hbk
          split at he
          · rename_i u hu
            cases he
            refine ⟨by simp, fun m hm hl b' blk' hbm hb' => ?_⟩
            by_cases hbb : b = b'
            · subst hbb
              rw [List.getElem?_set_self (List.getElem?_eq_some_iff.1 (getB_some hbk).1).1] at hb'
              cases hb'
              intro hz
              refine ltBs_all.2 (fun w hw => ?_)
              have hold := ltBs_all.1 (hl b blk hbm (getB_some hbk).1 hz)
              rcases List.mem_or_eq_of_mem_set hw with hw | rfl
              · exact hold w hw
              · exact lt_untip (hold _ (List.mem_of_getElem? hu))
            · rw [List.getElem?_set_ne hbb] at hb'
              exact hl b' blk' hbm hb'
          · cases he
        · cases he
      · cases he
    case storeT p n =>
      simp only [evOp] at he
      split at he
      · split at he
        · rename_i b off _ _ blk hbk
          split at he
          · rename_i hc
            cases he
            refine ⟨by simp, fun m hm hl b' blk' hbm hb' => ?_⟩
            by_cases hbb : b = b'
            · subst hbb
              rw [List.getElem?_set_self (List.getElem?_eq_some_iff.1 (getB_some hbk).1).1] at hb'
              cases hb'
              intro hz
              refine ltBs_all.2 (fun w hw => ?_)
              have hold := ltBs_all.1 (hl b blk hbm (getB_some hbk).1 hz)
              rcases List.mem_or_eq_of_mem_set hw with hw | rfl
              · exact hold w hw
              · rcases hc.2.2.2 with h1 | h1
                · omega
                · exact lower_lt m 4 _ h1
            · rw [List.getElem?_set_ne hbb] at hb'
              exact hl b' blk' hbm hb'
          · cases he
        · cases he
      · cases he
    case appo esz ag p q =>
      simp only [evOp] at he
      split at he
      · split at he
        · split at he
          · split at he <;> cases he
            · exact .refl _ _
            · exact .app _ hb
          · split at he
            · split at he <;> cases he
              · exact .refl _ _
              · exact .app _ hb
            · cases he
          · cases he
        · cases he
      · cases he
    case callm g ps => exact toB hb (hC.m _ _ _ _ _ he)
    case callk g ps => exact toB hb (hC.k _ _ _ _ _ he)
    case callv f ps =>
      simp only [evOp] at he
      generalize POpd.get sl f = u at he
      cases u <;> simp only [reduceCtorEq] at he
      exact toB hb (hC.m _ _ _ _ _ he)

theorem row_low (hC : EnvLow C) {r : PRow} {st st' : St} (hb : b0 ≤ st.2.length) (he : evRow C b0 r st = some st') : KeepsB b0 st.2 st'.2 := by
  have run : ∀ {st'}, runRow C b0 r st = some st' → KeepsB b0 st.2 st'.2 := by
    intro st' hr
    simp only [runRow, Option.map_eq_some_iff] at hr
    obtain ⟨⟨v, h'⟩, hv, rfl⟩ := hr
    exact op_low hC hb hv
  unfold evRow at he
  split at he
  · exact run he
  · split at he
    · split at he
      · exact run he
      · cases he; exact .refl _ _
    · cases he; exact .refl _ _
    · cases he

theorem rows_low (hC : EnvLow C) : ∀ (l : List PRow) {st st' : St}, b0 ≤ st.2.length → evRows C b0 l st = some st' → KeepsB b0 st.2 st'.2
  | [], st, st', _, he => by cases he; exact .refl _ _
  | r :: l, st, st', hb, he => by
    simp only [evRows, Option.bind_eq_some_iff] at he
    obtain ⟨s1, h1, h2⟩ := he
    have k1 := row_low hC hb h1
    exact k1.trans (rows_low hC l (Nat.le_trans hb k1.1) h2)

theorem code_low (hC : EnvLow C) (n : Nat) : ∀ (pc : PCode) {st st' : St} {ex : Ex}, b0 ≤ st.2.length → evCode C b0 n pc st = some (ex, st') → KeepsB b0 st.2 st'.2 := by
  intro pc
  induction pc with
  | skip => intro st st' ex hb he; cases he; exact .refl _ _
  | exit i => intro st st' ex hb he; cases he; exact .refl _ _
  | ret => intro st st' ex hb he; cases he; exact .refl _ _
  | bad => intro st st' ex hb he; cases he
  | rows l =>
    intro st st' ex hb he
    simp only [evCode, Option.map_eq_some_iff, Prod.mk.injEq] at he
    obtain ⟨s1, h1, _, rfl⟩ := he
    exact rows_low hC l hb h1
  | seq x y ihx ihy =>
    intro st st' ex hb he
    simp only [evCode] at he
    split at he
    · rename_i s1 h1
      have k1 := ihx hb h1
      exact k1.trans (ihy (Nat.le_trans hb k1.1) he)
    · exact ihx hb he
  | cond p x y ihx ihy =>
    intro st st' ex hb he
    simp only [evCode] at he
    split at he
    · split at he
      · exact ihx hb he
      · exact ihy hb he
    · cases he
  | block i x ih =>
    intro st st' ex hb he
    simp only [evCode] at he
    split at he
    · rename_i j s1 h1
      split at he <;> (cases he; exact ih hb h1)
    · exact ih hb he
  | holes ds x ih =>
    intro st st' ex hb he
    have K : ∀ (ds : List Nat) (st : St), b0 ≤ st.2.length → KeepsB b0 st.2 (mkHoles ds st).2 := by
      intro ds
      induction ds with
      | nil => intro st _; exact .refl _ _
      | cons d ds ihd =>
        intro st hb
        exact (KeepsB.app ⟨[], 0, true, false⟩ hb).trans (ihd (st.1.set d (.hole st.2.length), st.2 ++ [⟨[], 0, true, false⟩]) (by simp; omega))
    have k1 := K ds st hb
    exact k1.trans (ih (st := mkHoles ds st) (Nat.le_trans hb k1.1) he)
  | loop keep x ih =>
    intro st st' ex hb he
    simp only [evCode] at he
    have L : ∀ (k : Nat) {st : St}, b0 ≤ st.2.length → loopN (fun s => evCode C b0 n x (forgetBut keep s)) k st = some (ex, st') → KeepsB b0 st.2 st'.2 := by
      intro k
      induction k with
      | zero => intro st _ h; cases h
      | succ k ihk =>
        intro st hb h
        simp only [loopN] at h
        split at h
        · rename_i s2 h2
          have k1 := ih (st := forgetBut keep st) hb h2
          exact k1.trans (ihk (Nat.le_trans hb k1.1) h)
        · exact ih (st := forgetBut keep st) hb h
    exact L n hb he

theorem fun_low (hC : EnvLow C) {n : Nat} {Fn : PFun} {us : List AV} {h h' : Store} {v : AV} (he : evFun C n Fn us h = some (v, h')) : Keeps h h' := by
  unfold evFun finish at he
  split at he
  · cases he
  · rename_i ex st hne hr
    simp only [Option.map_eq_some_iff, Prod.mk.injEq] at he
    obtain ⟨vs, hvs, _, rfl⟩ := he
    obtain ⟨k1, k2⟩ := code_low hC n Fn.body (st := start Fn us h) (Nat.le_refl _) hr
    exact ⟨k1, k2⟩
  · cases he

theorem env_low (T : Nat → Option Ent) (Gl : Nat → Option (List AV)) : ∀ n, EnvLow (env T Gl n)
  | 0 => ⟨(by intro g us h v h' he; cases he), (by intro g us h v h' he; cases he)⟩
  | n + 1 => by
    have ih := env_low T Gl n
    refine ⟨?_, ?_⟩
    · intro g us h v h' he
      simp only [env] at he
      split at he
      · simp only [outM, Option.bind_eq_some_iff] at he
        obtain ⟨⟨r, h1⟩, hr, he⟩ := he
        obtain ⟨k1, k2⟩ := fun_low ih hr
        split at he
        · simp only [Option.map_eq_some_iff, Prod.mk.injEq] at he
          obtain ⟨u, hu, _, rfl⟩ := he
          refine ⟨by simp; omega, fun m hm hl b blk hbm hb => ?_⟩
          rw [List.getElem?_take_of_lt (by omega)] at hb
          exact k2 m hm hl b blk hbm hb
        · cases he
      · cases he
    · intro g us h v h' he
      simp only [env] at he
      split at he
      · exact fun_low ih he
      · cases he

end Go.Proofs.YteaopgkajbfkeaaGreatDoor
namespace Go.Proofs.YteaopgkajbfkeaaGreatDoor
open Go Go.RowKit

variable {Gl : Nat → Option (List AV)} {base : Nat} {F : Fr} {w : World} {G : Gh} {a : Act} {P : Program} {C : Env} {b0 : Nat}

def resB (P : Program) : List ResultVar → List PRes → Bool
  | [], [] => true
  | .tmp t :: r, .slot n :: r' => t == n && resB P r r'
  | .cell x t :: r, .cell n ag sz :: r' => x == n && tyIs P t ag sz && resB P r r'
  | _, _ => false

theorem results_ok {st : St} (s : SR Gl base F w G a.tmps st.1 st.2) : ∀ {rs : List ResultVar} {ps : List PRes} {vs : List AV}, resB P rs ps = true → ps.mapM (PRes.get st) = some vs →
    ∃ xs : List Value, (rs.mapM fun (r : ResultVar) => (match r with | .tmp t => pure (a.tmps.getD t undef) | .cell x t => do loadVar t (← asAddr (a.tmps.getD x undef)) : Sem Value)).run P w = .ok xs w ∧ VRs w G vs xs
  | [], [], vs, _, hm => by
    simp at hm; subst hm
    exact ⟨[], rfl, .nil⟩
  | .tmp t :: r, .slot n :: r', vs, hb, hm => by
    simp only [resB, Bool.and_eq_true, beq_iff_eq] at hb
    obtain ⟨rfl, hb⟩ := hb
    rw [List.mapM_cons] at hm
    simp only [bind, Option.bind_eq_some_iff, pure, Option.some.injEq, PRes.get] at hm
    obtain ⟨v, rfl, vs', hvs, rfl⟩ := hm
    obtain ⟨xs, h1, h2⟩ := results_ok s hb hvs
    refine ⟨a.tmps.getD t undef :: xs, ?_, .cons (s.get t) h2⟩
    rw [List.mapM_cons]
    simp only [Sem.run_bind, Sem.run_pure, Result.andThen_ok]
    rw [h1]
    rfl
  | .cell x t :: r, .cell n ag sz :: r', vs, hb, hm => by
    simp only [resB, Bool.and_eq_true, beq_iff_eq] at hb
    obtain ⟨⟨rfl, ht⟩, hb⟩ := hb
    rw [List.mapM_cons] at hm
    simp only [bind, Option.bind_eq_some_iff, pure, Option.some.injEq] at hm
    obtain ⟨v, hv, vs', hvs, rfl⟩ := hm
    obtain ⟨xs, h1, h2⟩ := results_ok s hb hvs
    have hx := s.get x
    simp only [PRes.get] at hv
    generalize st.1.getD x .any = u at hx hv
    cases u <;> simp only [reduceCtorEq] at hv
    rename_i b off
    obtain ⟨r0, e, hr⟩ := hx.refs
    cases hbk : getB st.2 b with
    | none => rw [hbk] at hv; cases hv
    | some blk =>
      rw [hbk] at hv
      obtain ⟨ys, B⟩ := s.mem.blk b blk r0 (getB_some hbk).1 hr
      obtain ⟨el, sp, hrow⟩ := B.row
      simp only [Option.map_eq_some_iff] at hv
      obtain ⟨v0, hv0, rfl⟩ := hv
      have L := run_loadPart P (w := w) ht (k := r0) (o := 0) (off := off) (xs := ys) (fun j x hx => by rw [Nat.zero_add, cell_row hrow]; exact get_left hx)
      simp only [Nat.zero_add] at L
      have fin : ∀ y, (loadVar t ⟨r0, off, none⟩).run P w = .ok y w → VR w G (if ag then .agg (v0.cells.map AV.untip) else v0.untip) y →
          ∃ xs : List Value, ((ResultVar.cell x t :: r).mapM fun (r : ResultVar) => (match r with | .tmp t => pure (a.tmps.getD t undef) | .cell x t => do loadVar t (← asAddr (a.tmps.getD x undef)) : Sem Value)).run P w = .ok xs w ∧ VRs w G ((if ag then .agg (v0.cells.map AV.untip) else v0.untip) :: vs') xs := by
        intro y hy hvy
        refine ⟨y :: xs, ?_, .cons hvy h2⟩
        rw [List.mapM_cons]
        have ha : ∀ (a0 : Addr) (w : World), (asAddr (.pointer (some a0))).run P w = .ok a0 w := fun _ _ => rfl
        simp only [Sem.run_bind, e, ha, Sem.run_pure, Result.andThen_ok, hy]
        rw [h1]
        rfl
      rcases B.vals.part B.one hv0 with ⟨rfl, hl, hvv, hve⟩ | ⟨rfl, y, hy, hvv, _⟩
      · exact fin _ (L.1 rfl hl) (by simp only [if_true]; subst hve; exact agg_map_untip hvv)
      · exact fin _ (L.2 rfl y hy) hvv.untip
  | [], _ :: _, _, hb, _ => by cases hb
  | .tmp _ :: _, [], _, hb, _ => by cases hb
  | .cell _ _ :: _, [], _, hb, _ => by cases hb
  | .tmp _ :: _, .cell _ _ _ :: _, _, hb, _ => by cases hb
  | .cell _ _ :: _, .slot _ :: _, _, hb, _ => by cases hb

theorem mapM_len' {α β : Type} {f : α → Option β} : ∀ {l : List α} {l' : List β}, l.mapM f = some l' → l'.length = l.length
  | [], l', h => by simp at h; subst h; rfl
  | x :: l, l', h => by
    rw [List.mapM_cons] at h
    simp only [bind, Option.bind_eq_some_iff, pure, Option.some.injEq] at h
    obtain ⟨y, _, l2, h2, rfl⟩ := h
    simp [mapM_len' h2]

/-- The model's function and the resolved one. -/
def funB (P : Program) (f : FuncId) (Fn : PFun) : Bool :=
  match P.funcs[f]? with
  | some fn => fn.name != "runtime.NumGoroutine" && fn.ntmps == Fn.nt && resB P fn.results.toList Fn.res && (match fn.body with | some c => codeB P c Fn.body | none => false)
  | none => false

theorem funB_call {f : FuncId} {Fn : PFun} (h : funB P f Fn = true) : callB P f = true := by
  unfold funB at h
  unfold callB
  split at h
  · rename_i fn hf
    simp only [Bool.and_eq_true] at h
    obtain ⟨⟨⟨h1, h2⟩, h3⟩, h4⟩ := h
    split at h4
    · rename_i c hc
      simp only [hf, Bool.and_eq_true, h1, hc, Option.isSome_some, and_self]
    · cases h4
  · cases h

theorem untip_args {us : List AV} {n : Nat} (hu : ∀ v ∈ us, v.untip = v) {i : Nat} {v : AV} (hv : (us ++ List.replicate n (.tup []))[i]? = some v) (x : Value) : tipOf v x = none := by
  have hm := List.mem_of_getElem? hv
  rcases List.mem_append.1 hm with h | h
  · rw [← hu v h]; exact tipOf_untip _ _
  · rw [List.mem_replicate] at h
    rw [h.2]; rfl

theorem one?_ok {vs : List AV} {xs : List Value} (h : VRs w G vs xs) : VR w G (one? vs) (if h : xs.toArray.size = 1 then xs.toArray[0] else .tuple xs.toArray) := by
  cases h with
  | nil => exact .tup .nil
  | cons h t =>
    cases t with
    | nil => simpa [one?] using h
    | cons h' t' => simp only [one?]; simp; exact .tup (.cons h (.cons h' t'))

/-- A function that ends, in the evaluator, ends so in the model. -/
theorem fun_sound (hC : EnvOK P Gl C) (hm : P.follows .mixedOrders = true) {f : FuncId} {Fn : PFun} (hb : funB P f Fn = true) {n : Nat} {us : List AV} {h h' : Store} {v : AV} (he : evFun C n Fn us h = some (v, h'))
    {xs : List Value} (s : SR Gl base F w G #[] [] h) (hv : VRs w G us xs) (hu : ∀ v ∈ us, v.untip = v) :
    Calls P f ⟨xs⟩ w fun e w' => ∃ y, e = .returned y ∧ Below base w w' ∧ ∃ G', Ext w G w' G' ∧ SR Gl base F w' G' #[] [] h' ∧ VR w' G' v y ∧
      ∀ t, tipOf v y = some t → TipOK base w' G' t ∧ ∀ l t', TipAt F w' G' #[] [] h' l t' → t'.1 ≠ t.1 := by
  unfold funB at hb
  split at hb
  · rename_i fn hf
    simp only [Bool.and_eq_true, beq_iff_eq] at hb
    obtain ⟨⟨⟨h1, h2⟩, h3⟩, h4⟩ := hb
    split at h4
    · rename_i c hc
      unfold evFun finish at he
      split at he
      · cases he
      · rename_i ex st hne hr
        simp only [Option.map_eq_some_iff, Prod.mk.injEq] at he
        obtain ⟨vs, hvs, rfl, rfl⟩ := he
        have hlen := hv.length
        -- the state at the entry
        have s0 : SR Gl base F w G ((⟨xs⟩ : Array Value) ++ Array.replicate (fn.ntmps - (⟨xs⟩ : Array Value).size) undef) (start Fn us h).1 (start Fn us h).2 := by
          refine ⟨by simp [start, hlen, h2], ?_, s.mem, ?_, ?_, s.glob, s.room⟩
          · have hrep : ∀ k, VRs w G (List.replicate k (.tup [])) (List.replicate k undef) := by
              intro k
              induction k with
              | zero => exact .nil
              | succ k ih => rw [List.replicate_succ, List.replicate_succ]; exact .cons (.c (.tup .nil)) ih
            simp only [start, Array.toList_append, Array.toList_replicate]
            rw [h2, hlen]
            exact hv.append (hrep _)
          · intro l t at'
            cases at' with
            | slot hv' hx' ht => rw [untip_args hu hv'] at ht; cases ht
            | cell hb hv' hr hx ht => exact s.tips _ _ (.cell hb hv' hr hx ht)
            | fr ht => exact s.tips _ _ (.fr ht)
          · have sub : ∀ l t, TipAt F w G ((⟨xs⟩ : Array Value) ++ Array.replicate (fn.ntmps - (⟨xs⟩ : Array Value).size) undef) (start Fn us h).1 (start Fn us h).2 l t → TipAt F w G #[] [] h l t := by
              intro l t at'
              cases at' with
              | slot hv' hx' ht => rw [untip_args hu hv'] at ht; cases ht
              | cell hb hv' hr hx ht => exact .cell hb hv' hr hx ht
              | fr ht => exact .fr ht
            exact fun l l' t t' a a' e => s.inj l l' t t' (sub l t a) (sub l' t' a') e
        refine calls_of_wp hf hc ?_
        refine code_sound hC hm n Fn.body c h4 (st := start Fn us h) (a := { tmps := (⟨xs⟩ : Array Value) ++ Array.replicate (fn.ntmps - (⟨xs⟩ : Array Value).size) undef, defers := [] }) s0 rfl hr ?_
        intro a' w' hg
        obtain ⟨hd, G', E, B, s'⟩ := hg
        obtain ⟨ys, hy, hvy⟩ := results_ok s' h3 hvs
        have hres : (results fn a'.tmps).run P w' = .ok (if h : ys.toArray.size = 1 then ys.toArray[0] else .tuple ys.toArray) w' := by
          unfold results
          rw [Sem.run_bind, Array.mapM_eq_mapM_toList, Sem.run_map]
          have : (List.mapM (fun (r : ResultVar) => (match r with | .tmp t => pure (a'.tmps.getD t undef) | .cell x t => do loadVar t (← asAddr (a'.tmps.getD x undef)) : Sem Value)) fn.results.toList).run P w' = .ok ys w' := hy
          erw [this]
          rfl
        have hnorm : bodyPost P fn (fun e w'_1 => ∃ y, e = .returned y ∧ Below base w w'_1 ∧ ∃ G', Ext w G w'_1 G' ∧ SR Gl base F w'_1 G' #[] [] st.2 ∧ VR w'_1 G' (one? vs) y ∧
            ∀ t, tipOf (one? vs) y = some t → TipOK base w'_1 G' t ∧ ∀ l t', TipAt F w'_1 G' #[] [] st.2 l t' → t'.1 ≠ t.1) .ret a' w' := by
          refine ⟨hd, _, hres, _, rfl, B, G', E, ?_, one?_ok hvy, ?_⟩
          · refine ⟨rfl, .nil, s'.mem, ?_, ?_, s'.glob, s'.room⟩
            · intro l t at'
              cases at' with
              | slot hv' hx' ht => simp at hv'
              | cell hb hv' hr hx ht => exact s'.tips _ _ (.cell hb hv' hr hx ht)
              | fr ht => exact s'.tips _ _ (.fr ht)
            · have sub : ∀ l t, TipAt F w' G' #[] [] st.2 l t → TipAt F w' G' a'.tmps st.1 st.2 l t := by
                intro l t at'
                cases at' with
                | slot hv' hx' ht => simp at hv'
                | cell hb hv' hr hx ht => exact .cell hb hv' hr hx ht
                | fr ht => exact .fr ht
              exact fun l l' t t' a a' e => s'.inj l l' t t' (sub l t a) (sub l' t' a') e
          · intro t ht
            -- only a slot's own value bears spare places
            have key : ∃ (k : Nat) (x : Value), st.1[k]? = some (one? vs) ∧ a'.tmps[k]? = some x ∧ (if h : ys.toArray.size = 1 then ys.toArray[0] else .tuple ys.toArray) = x := by
              have hnt : ∀ e us, one? vs = .gsl e us → ∃ v0, vs = [v0] ∧ v0 = .gsl e us := by
                intro e us h
                match vs, h with
                | [v0], h => exact ⟨v0, rfl, h⟩
                | [], h => cases h
                | _ :: _ :: _, h => cases h
              cases hov : one? vs <;> rw [hov] at ht <;> (try (cases ht; done))
              rename_i e us'
              obtain ⟨v0, rfl, rfl⟩ := hnt e us' hov
              generalize fn.results.toList = rs at h3 hy
              match hres1 : Fn.res, rs, h3, hvs, hy with
              | [.slot k], [.tmp k'], h3, hvs, hy =>
                simp only [resB, Bool.and_eq_true, beq_iff_eq] at h3
                obtain ⟨rfl, _⟩ := h3
                have hg : st.1.getD k' .any = .gsl e us' := by
                  simp only [List.mapM_cons, List.mapM_nil, bind, pure, PRes.get, Option.bind_some, Option.some.injEq, List.cons.injEq, and_true] at hvs
                  exact hvs
                simp only [List.mapM_cons, List.mapM_nil, Sem.run_bind, Sem.run_pure, Result.andThen_ok, Result.ok.injEq, and_true] at hy
                subst hy
                have hk : st.1[k']? = some (.gsl e us') := by
                  rw [List.getD_eq_getElem?_getD] at hg
                  cases hq : st.1[k']? with
                  | none => rw [hq] at hg; cases hg
                  | some z => rw [hq] at hg; simpa using hg
                obtain ⟨x, hx, _⟩ := s'.vals.get hk
                rw [Array.getElem?_toList] at hx
                refine ⟨k', x, hk, hx, ?_⟩
                simp [hx]
              | [.cell k ag sz], _, h3, hvs, hy =>
                exfalso
                simp only [List.mapM_cons, List.mapM_nil, bind, Option.bind_eq_some_iff, pure, Option.some.injEq, PRes.get] at hvs
                obtain ⟨v1, hv1, vs2, e2, e3⟩ := hvs
                subst e2
                simp only [List.cons.injEq, and_true] at e3
                subst e3
                split at hv1
                · split at hv1
                  · simp only [Option.map_eq_some_iff] at hv1
                    obtain ⟨z, _, hz⟩ := hv1
                    split at hz
                    · cases hz
                    · cases z <;> simp [AV.untip] at hz
                  · cases hv1
                · cases hv1
              | [], _, h3, hvs, hy => simp at hvs
              | _ :: _ :: _, _, h3, hvs, hy =>
                have := mapM_len' hvs
                simp at this
              | [.slot _], [], h3, hvs, hy => cases h3
              | [.slot _], .cell _ _ :: _, h3, hvs, hy => cases h3
              | [.slot _], .tmp _ :: _ :: _, h3, hvs, hy => simp [resB] at h3
            obtain ⟨k, x, k1, k2, k3⟩ := key
            rw [k3] at ht
            have at0 : TipAt F w' G' a'.tmps st.1 st.2 (.slot k) t := .slot k1 k2 ht
            refine ⟨s'.tips _ _ at0, fun l t' at' e => ?_⟩
            have at'' : TipAt F w' G' a'.tmps st.1 st.2 l t' := by
              cases at' with
              | slot hv' hx' ht => simp at hv'
              | cell hb hv' hr hx ht => exact .cell hb hv' hr hx ht
              | fr ht => exact .fr ht
            have := s'.inj _ _ _ _ at'' at0 e
            subst this
            cases at' with
            | slot hv' hx' ht => simp at hv'
        cases ex with
        | nrm => exact hnorm
        | ret => exact hnorm
        | exit i => exact absurd rfl (hne i)
      · cases he
    · cases h4
  · cases hb

end Go.Proofs.YteaopgkajbfkeaaGreatDoor
namespace Go.Proofs.YteaopgkajbfkeaaGreatDoor
open Go Go.RowKit

variable {Gl : Nat → Option (List AV)} {base : Nat} {F : Fr} {w : World} {G : Gh} {a : Act} {P : Program} {C : Env} {b0 : Nat}

theorem sealAll_ne : ∀ (l : List Nat) (h : Store) (b : Nat), b ∉ l → (sealAll h l)[b]? = h[b]?
  | [], h, b, _ => rfl
  | c :: l, h, b, hb => by
    simp only [List.mem_cons, not_or] at hb
    show (sealAll (h.modify c _) l)[b]? = _
    rw [sealAll_ne l _ b hb.2, List.getElem?_modify]
    cases h[b]? with
    | none => rfl
    | some x => simp [Ne.symm hb.1]

/-- What a finished call made is handed over as data, and its blocks are nobody's any more. -/
theorem SR.cut {n : Nat} {h1 : Store} {r v : AV} {y : Value} (s : SR Gl base F w G #[] [] h1) (hv : VR w G r y) (hf : freeze h1 r = some v) (hn : n ≤ h1.length) (hl : Low n h1) (hre : ∀ b ∈ reachN h1 8 r, n ≤ b) :
    ∃ G3, (∀ k o, G.I k o → G3.I k o) ∧ (∀ (b r : Nat), b < n → G.loc b = some r → G3.loc b = some r) ∧ SR Gl base F w G3 #[] [] (h1.take n) ∧ VC w G3 v y := by
  obtain ⟨G2, E, s2, hloc, hI⟩ := s.shutAll (List.range' n (h1.length - n))
  have hro : ∀ b r, n ≤ b → G.loc b = some r → G2.role r = .imm := by
    intro b r hb hr
    have hb2 : b < h1.length := s.mem.lt b r hr
    have hr2 : G2.loc b = some r := by rw [hloc]; exact hr
    obtain ⟨blk, hblk⟩ : ∃ blk, (sealAll h1 (List.range' n (h1.length - n)))[b]? = some blk := by
      have : b < (sealAll h1 (List.range' n (h1.length - n))).length := by rw [(sealAll_get _ _).1]; exact hb2
      exact ⟨_, List.getElem?_eq_getElem this⟩
    obtain ⟨ys, B⟩ := s2.mem.blk b blk r hblk hr2
    have hro := sealAll_ro _ h1 b blk hblk (.inl (List.mem_range'_1.2 ⟨hb, by omega⟩))
    have := B.role
    rw [if_pos hro] at this
    exact this
  have vc : VC w G2 v y := freeze_ok s hI 8 hv hf (fun b hb r hr o => by simp only [Gh.I, hro b r (hre b hb) hr])
  have htake : ∀ b, b < n → (h1.take n)[b]? = (sealAll h1 (List.range' n (h1.length - n)))[b]? := by
    intro b hb
    rw [List.getElem?_take_of_lt hb, sealAll_ne]
    intro hm
    have := (List.mem_range'_1.1 hm).1
    omega
  refine ⟨G2.cut n, hI, fun b r hb hr => by simp only [Gh.cut]; rw [if_pos hb, hloc]; exact hr, ?_, vc.recut⟩
  have sub : ∀ l t, TipAt F w (G2.cut n) #[] [] (h1.take n) l t → TipAt F w G2 #[] [] (sealAll h1 (List.range' n (h1.length - n))) l t := by
    intro l t at'
    cases at' with
    | slot hv' hx' ht => simp at hv'
    | @cell b o r blk v x t hb hv' hr hx ht =>
      have hbn : b < n := by
        rcases Nat.lt_or_ge b n with h | h
        · exact h
        · rw [List.getElem?_take_eq_none h] at hb; cases hb
      rw [htake b hbn] at hb
      simp only [Gh.cut] at hr
      rw [if_pos hbn] at hr
      exact .cell hb hv' hr hx ht
    | fr ht => exact .fr ht
  have lk : ∀ (b r : Nat), (G2.cut n).loc b = some r → b < n ∧ G2.loc b = some r := by
    intro b r hb
    simp only [Gh.cut] at hb
    split at hb
    · rename_i h; exact ⟨h, hb⟩
    · cases hb
  refine ⟨rfl, .nil, ⟨?_, ?_, ?_, ?_, s2.mem.old, s2.mem.new, fun b r hb => s2.mem.low b r (lk b r hb).2⟩, fun l t at' => s2.tips l t (sub l t at'), fun l l' t t' x x' e => s2.inj l l' t t' (sub l t x) (sub l' t' x') e, ?_, s2.room⟩
  · intro b r hb
    have := (lk b r hb).1
    simp only [List.length_take]
    omega
  · intro b blk r hb hr
    obtain ⟨hbn, hr2⟩ := lk b r hr
    have hb0 := hb
    rw [List.getElem?_take_of_lt hbn] at hb0
    rw [htake b hbn] at hb
    obtain ⟨ys, B⟩ := s2.mem.blk b blk r hb hr2
    exact ⟨ys, hr, B.row, B.vals.cut (hl b blk hbn hb0 (by have := B.esz.1; omega)), B.one, B.esz, B.role⟩
  · intro b blk hb hz
    have hbn : b < n := by
      rcases Nat.lt_or_ge b n with h | h
      · exact h
      · rw [List.getElem?_take_eq_none h] at hb; cases hb
    rw [htake b hbn] at hb
    obtain ⟨r, hr⟩ := s2.mem.has b blk hb hz
    exact ⟨r, by simp only [Gh.cut]; rw [if_pos hbn]; exact hr⟩
  · intro r b hr
    have := s2.mem.own r b hr
    have hbn : b < n := by
      rcases Nat.lt_or_ge b n with h | h
      · exact h
      · rw [hloc] at this
        have hr' : G2.role r = .own b := hr
        rw [hro b r h this] at hr'
        cases hr'
    simp only [Gh.cut]; rw [if_pos hbn]; exact this
  · intro g cs hg
    obtain ⟨ys, h1, h2, h3⟩ := s2.glob g cs hg
    refine ⟨ys, h1, ?_, h3⟩
    refine VCs.ext (w := w) (G := G2) ?_ h2
    intro k o x hx hi
    exact ⟨hx, hi⟩

/-- A library function that is given its own meaning. -/
def PrimOK (P : Program) (Gl : Nat → Option (List AV)) (g : Nat) (f : List AV → Option AV) : Prop :=
  callB P g = true ∧ ∀ args v, f args = some v → ∀ (w : World) (R : Nat → Role) (xs : List Value), (∀ r b, R r ≠ .own b) → (∀ r, w.heap.size ≤ r → R r = .imm) → VCs w ⟨R, fun _ => none⟩ args xs → Globs Gl w ⟨R, fun _ => none⟩ →
    Calls P g ⟨xs⟩ w fun e w' => ∃ y, e = .returned y ∧ Below w.heap.size w w' ∧ ∃ G', (∀ r, r < w.heap.size → G'.role r = R r) ∧ VC w' G' v y

structure TableOK (P : Program) (Gl : Nat → Option (List AV)) (T : Nat → Option Ent) : Prop where
  orders : P.follows .mixedOrders = true
  code : ∀ g Fn, T g = some (.code Fn) → funB P g Fn = true
  prim : ∀ g f, T g = some (.prim f) → PrimOK P Gl g f

theorem VC.untip_id {v : AV} {x : Value} (h : VC w G v x) : v.untip = v := by cases h <;> rfl
theorem VCs.untips : ∀ {vs : List AV} {xs : List Value}, VCs w G vs xs → ∀ v ∈ vs, v.untip = v
  | _, _, .nil => by simp
  | _, _, .cons h t => by
    intro v hv
    rcases List.mem_cons.1 hv with rfl | hv
    · exact h.untip_id
    · exact t.untips v hv

theorem env_ok {T : Nat → Option Ent} (hT : TableOK P Gl T) : ∀ n, EnvOK P Gl (env T Gl n)
  | 0 => ⟨rfl, (by intro g us v he; cases he), (by intro g us h v h' he; cases he), (by intro g us h v h' he; cases he), (by intro g us v he; cases he), (by intro g us h r he; cases he), (by intro g us h r he; cases he)⟩
  | n + 1 => by
    have ih := env_ok hT n
    refine ⟨rfl, ?_, ?_, ?_, ?_, ?_, ?_⟩
    · -- data
      intro g us v he w R xs hR1 hR2 hv hg
      simp only [env] at he
      split at he
      · rename_i Fn hFn
        simp only [outQ, Option.bind_eq_some_iff] at he
        obtain ⟨⟨r, h'⟩, hr, hf⟩ := he
        have s0 : SR Gl w.heap.size ⟨fun _ => False, R, hR1⟩ w ⟨R, fun _ => none⟩ #[] [] [] := by
          refine ⟨rfl, .nil, ⟨(by intro b r hb; cases hb), (by intro b blk r hb; simp at hb), (by intro b blk hb; simp at hb), fun r b hr => absurd hr (hR1 r b), fun _ _ => rfl, hR2, by intro b r hb; simp at hb⟩, ?_, ?_, hg, Nat.le_refl _⟩
          · intro l t at'
            cases at' with
            | slot hv' => simp at hv'
            | cell hb => simp at hb
            | fr ht => exact ht.elim
          · intro l l' t t' at'
            cases at' with
            | slot hv' => simp at hv'
            | cell hb => simp at hb
            | fr ht => exact ht.elim
        refine (fun_sound ih hT.orders (hT.code g Fn hFn) hr s0 hv.toVRs hv.untips).mono ?_
        rintro e w' ⟨y, rfl, hb, G', E, s', hvy, _⟩
        obtain ⟨G3, c1, c2, s3, vc⟩ := s'.cut (n := 0) hvy hf (Nat.zero_le _) (by intro b blk hb; omega) (fun b _ => Nat.zero_le b)
        exact ⟨y, rfl, hb, G3, fun r hr => s3.mem.old r hr, vc⟩
      · rename_i f hf
        exact (hT.prim g f hf).2 us v he w R xs hR1 hR2 hv hg
      · cases he
    · -- on the common memory
      intro g us h v h' he base F w G xs s hv hu
      simp only [env] at he
      split at he
      · rename_i Fn hFn
        simp only [outM, Option.bind_eq_some_iff] at he
        obtain ⟨⟨r, h1⟩, hr, he⟩ := he
        split at he
        · rename_i hre
          simp only [Option.map_eq_some_iff, Prod.mk.injEq] at he
          obtain ⟨u, hf, rfl, rfl⟩ := he
          obtain ⟨k1, k2⟩ := fun_low (env_low T Gl n) hr
          have hlow : Low h.length h := by
            intro b blk _ hb hz
            obtain ⟨r0, hr0⟩ := s.mem.has b blk hb hz
            obtain ⟨ys, B⟩ := s.mem.blk b blk r0 hb hr0
            exact B.vals.lt s.mem.lt
          refine (fun_sound ih hT.orders (hT.code g Fn hFn) hr s hv hu).mono ?_
          rintro e w' ⟨y, rfl, hb, G', E, s', hvy, _⟩
          obtain ⟨G3, c1, c2, s3, vc⟩ := s'.cut (n := h.length) hvy hf k1 (k2 _ (Nat.le_refl _) hlow) (fun b hb => by
            have := List.all_eq_true.1 hre b hb
            simpa using this)
          refine ⟨y, rfl, hb, G3, ⟨fun k o x hx hi => ?_, fun b r hr => ?_⟩, s3, vc⟩
          · obtain ⟨e1, e2⟩ := E.cell k o x hx hi
            exact ⟨e1, c1 _ _ e2⟩
          · exact c2 b r (s.mem.lt b r hr) (E.loc b r hr)
        · cases he
      · cases he
    · -- kept
      intro g us h v h' he base F w G xs s hv hu
      simp only [env] at he
      split at he
      · rename_i Fn hFn
        exact fun_sound ih hT.orders (hT.code g Fn hFn) he s hv hu
      · cases he
    · intro g us v he
      simp only [env] at he
      split at he
      · rename_i Fn hFn; exact funB_call (hT.code g Fn hFn)
      · rename_i f hf; exact (hT.prim g f hf).1
      · cases he
    · intro g us h r he
      simp only [env] at he
      split at he
      · rename_i Fn hFn; exact funB_call (hT.code g Fn hFn)
      · cases he
    · intro g us h r he
      simp only [env] at he
      split at he
      · rename_i Fn hFn; exact funB_call (hT.code g Fn hFn)
      · cases he

end Go.Proofs.YteaopgkajbfkeaaGreatDoor
namespace Go.Proofs.YteaopgkajbfkeaaGreatDoor
open Go Go.RowKit

def Grows {α : Type} (f : Nat → Option α) : Prop := ∀ n a, f n = some a → f (n + 1) = some a

theorem Grows.le {α : Type} {f : Nat → Option α} (h : Grows f) {n m : Nat} (hnm : n ≤ m) {a : α} (ha : f n = some a) : f m = some a := by
  induction hnm with
  | refl => exact ha
  | step _ ih => exact h _ _ ih

open Classical in
noncomputable def lim {α : Type} (f : Nat → Option α) : Option α := if h : ∃ n a, f n = some a then f (Classical.choose h) else none

theorem lim_some {α : Type} {f : Nat → Option α} {a : α} (h : lim f = some a) : ∃ n, f n = some a := by
  unfold lim at h
  split at h
  · exact ⟨_, h⟩
  · cases h

theorem lim_of {α : Type} {f : Nat → Option α} (hg : Grows f) {n : Nat} {a : α} (h : f n = some a) : lim f = some a := by
  have hex : ∃ n a, f n = some a := ⟨n, a, h⟩
  unfold lim
  rw [dif_pos hex]
  obtain ⟨b, hb⟩ := Classical.choose_spec hex
  rcases Nat.le_total n (Classical.choose hex) with hle | hle
  · exact hg.le hle h
  · have := hg.le hle hb
    rw [h] at this
    cases this
    exact hb

structure EnvLe (C C' : Env) : Prop where
  q : ∀ g us v, C.q g us = some v → C'.q g us = some v
  m : ∀ g us h r, C.m g us h = some r → C'.m g us h = some r
  k : ∀ g us h r, C.k g us h = some r → C'.k g us h = some r
  g : C'.g = C.g

theorem evOp_mono {C C' : Env} (hC : EnvLe C C') {b0 : Nat} {op : POp} {sl : List AV} {h : Store} {r : AV × Store} (he : evOp C b0 op sl h = some r) : evOp C' b0 op sl h = some r := by
  cases op <;> try exact he
  case load ag sz p =>
    simp only [evOp] at he ⊢
    split at he
    · exact he
    · exact he
    · simp only [hC.g]; exact he
    · cases he
  case callq g ps =>
    simp only [evOp, Option.bind_eq_some_iff] at he ⊢
    obtain ⟨us, hus, v, hv, he⟩ := he
    exact ⟨us, hus, v, hC.q _ _ _ hv, he⟩
  case callqs g ps =>
    simp only [evOp, Option.bind_eq_some_iff, Option.map_eq_some_iff] at he ⊢
    obtain ⟨us, hus, v, hv, he⟩ := he
    exact ⟨us, hus, v, hC.q _ _ _ hv, he⟩
  case callm g ps => exact hC.m _ _ _ _ he
  case callk g ps => exact hC.k _ _ _ _ he
  case callv f ps =>
    simp only [evOp] at he ⊢
    split at he
    · exact hC.m _ _ _ _ he
    · cases he

theorem evRow_mono {C C' : Env} (hC : EnvLe C C') {b0 : Nat} {r : PRow} {st st' : St} (he : evRow C b0 r st = some st') : evRow C' b0 r st = some st' := by
  have run : runRow C b0 r st = some st' → runRow C' b0 r st = some st' := by
    intro h
    simp only [runRow, Option.map_eq_some_iff] at h ⊢
    obtain ⟨x, hx, e⟩ := h
    exact ⟨x, evOp_mono hC hx, e⟩
  unfold evRow at he ⊢
  split at he
  · exact run he
  · split at he
    · split at he
      · rename_i hc; rw [if_pos hc]; exact run he
      · rename_i hc; rw [if_neg hc]; exact he
    · exact he
    · cases he

theorem evRows_mono {C C' : Env} (hC : EnvLe C C') {b0 : Nat} : ∀ {l : List PRow} {st st' : St}, evRows C b0 l st = some st' → evRows C' b0 l st = some st'
  | [], _, _, h => h
  | r :: l, st, st', h => by
    simp only [evRows, Option.bind_eq_some_iff] at h ⊢
    obtain ⟨s, h1, h2⟩ := h
    exact ⟨s, evRow_mono hC h1, evRows_mono hC h2⟩

theorem loopN_mono {f f' : St → Option (Ex × St)} (hf : ∀ s r, f s = some r → f' s = some r) : ∀ {n m : Nat} {st : St} {r : Ex × St}, n ≤ m → loopN f n st = some r → loopN f' m st = some r
  | 0, _, _, _, _, h => by cases h
  | n + 1, 0, _, _, hnm, _ => by omega
  | n + 1, m + 1, st, r, hnm, h => by
    simp only [loopN] at h ⊢
    split at h
    · rename_i st' h1
      rw [hf _ _ h1]
      exact loopN_mono hf (by omega) h
    · rename_i x hne
      rw [hf _ _ h]
      split
      · rename_i st' e
        cases e
        exact absurd h (hne _)
      · rfl

theorem evCode_mono {C C' : Env} (hC : EnvLe C C') {b0 n m : Nat} (hnm : n ≤ m) : ∀ (pc : PCode) {st : St} {r : Ex × St}, evCode C b0 n pc st = some r → evCode C' b0 m pc st = some r := by
  intro pc
  induction pc with
  | skip => intro st r h; exact h
  | exit i => intro st r h; exact h
  | ret => intro st r h; exact h
  | bad => intro st r h; exact h
  | holes ds x ih => intro st r h; exact ih (st := mkHoles ds st) h
  | rows l =>
    intro st r h
    simp only [evCode, Option.map_eq_some_iff] at h ⊢
    obtain ⟨s, h1, e⟩ := h
    exact ⟨s, evRows_mono hC h1, e⟩
  | seq x y ihx ihy =>
    intro st r h
    simp only [evCode] at h ⊢
    split at h
    · rename_i s h1
      rw [ihx h1]
      exact ihy h
    · rename_i x' hne
      rw [ihx h]
      split
      · rename_i s e
        cases e
        exact absurd h (hne _)
      · rfl
  | cond p x y ihx ihy =>
    intro st r h
    simp only [evCode] at h ⊢
    split at h
    · rename_i t ht
      split at h
      · rename_i hc; rw [if_pos hc]; exact ihx h
      · rename_i hc; rw [if_neg hc]; exact ihy h
    · cases h
  | block i x ih =>
    intro st r h
    simp only [evCode] at h ⊢
    split at h
    · rename_i j s h1
      rw [ih h1]
      exact h
    · rename_i x' hne
      rw [ih h]
      split
      · rename_i j s e
        cases e
        exact absurd h (hne _ _)
      · rfl
  | loop keep x ih =>
    intro st r h
    simp only [evCode] at h ⊢
    exact loopN_mono (fun s r hs => ih hs) hnm h

theorem evFun_mono {C C' : Env} (hC : EnvLe C C') {n m : Nat} (hnm : n ≤ m) {F : PFun} {us : List AV} {h : Store} {r : AV × Store} (he : evFun C n F us h = some r) : evFun C' m F us h = some r := by
  unfold evFun at he ⊢
  cases hc : evCode C h.length n F.body (start F us h) with
  | none => rw [hc] at he; cases he
  | some x => rw [hc] at he; rw [evCode_mono hC hnm _ hc]; exact he

section tower
variable (T : Nat → Option Ent) (Gl : Nat → Option (List AV))

theorem env_mono : ∀ n, EnvLe (env T Gl n) (env T Gl (n + 1))
  | 0 => ⟨(by intro g us v h; cases h), (by intro g us h r e; cases e), (by intro g us h r e; cases e), rfl⟩
  | n + 1 => by
    have ih := env_mono n
    refine ⟨?_, ?_, ?_, rfl⟩
    · intro g us v he
      simp only [env] at he ⊢
      split at he
      · rename_i F hF
        simp only [outQ, Option.bind_eq_some_iff] at he ⊢
        obtain ⟨x, hx, e⟩ := he
        exact ⟨x, evFun_mono ih (Nat.le_succ _) hx, e⟩
      · exact he
      · cases he
    · intro g us h r he
      simp only [env] at he ⊢
      split at he
      · rename_i F hF
        simp only [outM, Option.bind_eq_some_iff] at he ⊢
        obtain ⟨x, hx, e⟩ := he
        exact ⟨x, evFun_mono ih (Nat.le_succ _) hx, e⟩
      · cases he
    · intro g us h r he
      simp only [env] at he ⊢
      split at he
      · exact evFun_mono ih (Nat.le_succ _) he
      · cases he

/-- All calls, however deep. -/
noncomputable def Om : Env := { q := fun g us => lim fun n => (env T Gl n).q g us, m := fun g us h => lim fun n => (env T Gl n).m g us h, k := fun g us h => lim fun n => (env T Gl n).k g us h, g := Gl }

theorem env_q_of {g : Nat} {us : List AV} {v : AV} {n : Nat} (h : (env T Gl n).q g us = some v) : (Om T Gl).q g us = some v := lim_of (fun n a ha => (env_mono T Gl n).q _ _ _ ha) h
theorem env_m_of {g : Nat} {us : List AV} {h : Store} {r : AV × Store} {n : Nat} (he : (env T Gl n).m g us h = some r) : (Om T Gl).m g us h = some r := lim_of (fun n a ha => (env_mono T Gl n).m _ _ _ _ ha) he
theorem env_k_of {g : Nat} {us : List AV} {h : Store} {r : AV × Store} {n : Nat} (he : (env T Gl n).k g us h = some r) : (Om T Gl).k g us h = some r := lim_of (fun n a ha => (env_mono T Gl n).k _ _ _ _ ha) he

theorem env_le {n m : Nat} (h : n ≤ m) : EnvLe (env T Gl n) (env T Gl m) := by
  induction h with
  | refl => exact ⟨fun _ _ _ h => h, fun _ _ _ _ h => h, fun _ _ _ _ h => h, rfl⟩
  | @step k _ ih =>
    have := env_mono T Gl k
    exact ⟨fun g us v h => this.q _ _ _ (ih.q _ _ _ h), fun g us h r e => this.m _ _ _ _ (ih.m _ _ _ _ e), fun g us h r e => this.k _ _ _ _ (ih.k _ _ _ _ e), by rw [this.g, ih.g]⟩
end tower

noncomputable def loopL (f : St → Option (Ex × St)) (st : St) : Option (Ex × St) := lim fun k => loopN f k st

theorem loopN_grows (f : St → Option (Ex × St)) (st : St) : Grows fun k => loopN f k st := fun _ _ h => loopN_mono (fun _ _ h => h) (Nat.le_succ _) h

/-- One round of a loop. -/
theorem loopL_step (f : St → Option (Ex × St)) (st : St) : loopL f st = match f st with | some (.nrm, st') => loopL f st' | r => r := by
  cases hf : f st with
  | none =>
    simp only
    unfold loopL lim
    rw [dif_neg]
    rintro ⟨n, a, h⟩
    cases n with
    | zero => cases h
    | succ n => simp only [loopN, hf] at h; cases h
  | some x =>
    obtain ⟨ex, st'⟩ := x
    cases ex with
    | nrm =>
      simp only
      have key : ∀ r, loopL f st = some r ↔ loopL f st' = some r := by
        intro r
        constructor
        · intro h
          obtain ⟨n, hn⟩ := lim_some h
          cases n with
          | zero => cases hn
          | succ n => simp only [loopN, hf] at hn; exact lim_of (loopN_grows f st') hn
        · intro h
          obtain ⟨n, hn⟩ := lim_some h
          exact lim_of (n := n + 1) (loopN_grows f st) (by simp only [loopN, hf]; exact hn)
      cases h1 : loopL f st with
      | none =>
        cases h2 : loopL f st' with
        | none => rfl
        | some r => rw [(key r).2 h2] at h1; cases h1
      | some r => exact ((key r).1 h1).symm
    | exit i => exact lim_of (n := 1) (loopN_grows f st) (by simp only [loopN, hf])
    | ret => exact lim_of (n := 1) (loopN_grows f st) (by simp only [loopN, hf])

noncomputable def evL (C : Env) (b0 : Nat) : PCode → St → Option (Ex × St)
  | .skip, st => some (.nrm, st)
  | .rows l, st => (evRows C b0 l st).map fun s => (.nrm, s)
  | .seq a b, st =>
    match evL C b0 a st with
    | some (.nrm, st') => evL C b0 b st'
    | r => r
  | .cond c a b, st =>
    match c.get st.1 with
    | .bool t => if t then evL C b0 a st else evL C b0 b st
    | _ => none
  | .block id a, st =>
    match evL C b0 a st with
    | some (.exit i, st') => if i = id then some (.nrm, st') else some (.exit i, st')
    | r => r
  | .loop keep a, st => loopL (fun s => evL C b0 a (forgetBut keep s)) st
  | .holes ds a, st => evL C b0 a (mkHoles ds st)
  | .exit id, st => some (.exit id, st)
  | .ret, st => some (.ret, st)
  | .bad, _ => none

noncomputable def evF (C : Env) (F : PFun) (us : List AV) (h : Store) : Option (AV × Store) := finish F (evL C h.length F.body (start F us h))

section cont
variable {T : Nat → Option Ent} {Gl : Nat → Option (List AV)}

theorem evOp_cont {b0 : Nat} {op : POp} {sl : List AV} {h : Store} {r : AV × Store} (he : evOp (Om T Gl) b0 op sl h = some r) : ∃ N, evOp (env T Gl N) b0 op sl h = some r := by
  cases op <;> try exact ⟨0, he⟩
  case callq g ps =>
    simp only [evOp, Option.bind_eq_some_iff] at he
    obtain ⟨us, hus, v, hv, he⟩ := he
    obtain ⟨N, hN⟩ := lim_some hv
    exact ⟨N, by simp only [evOp, Option.bind_eq_some_iff]; exact ⟨us, hus, v, hN, he⟩⟩
  case callqs g ps =>
    simp only [evOp, Option.bind_eq_some_iff, Option.map_eq_some_iff] at he
    obtain ⟨us, hus, v, hv, he⟩ := he
    obtain ⟨N, hN⟩ := lim_some hv
    exact ⟨N, by simp only [evOp, Option.bind_eq_some_iff, Option.map_eq_some_iff]; exact ⟨us, hus, v, hN, he⟩⟩
  case callm g ps => exact lim_some he
  case callk g ps => exact lim_some he
  case callv f ps =>
    simp only [evOp] at he
    split at he
    · rename_i g first caps hf
      obtain ⟨N, hN⟩ := lim_some he
      exact ⟨N, by simp only [evOp, hf]; exact hN⟩
    · cases he

theorem evRow_cont {b0 : Nat} {r : PRow} {st st' : St} (he : evRow (Om T Gl) b0 r st = some st') : ∃ N, evRow (env T Gl N) b0 r st = some st' := by
  have run : runRow (Om T Gl) b0 r st = some st' → ∃ N, runRow (env T Gl N) b0 r st = some st' := by
    intro h
    simp only [runRow, Option.map_eq_some_iff] at h
    obtain ⟨x, hx, e⟩ := h
    obtain ⟨N, hN⟩ := evOp_cont hx
    exact ⟨N, by simp only [runRow, Option.map_eq_some_iff]; exact ⟨x, hN, e⟩⟩
  unfold evRow at he
  split at he
  · rename_i hg
    obtain ⟨N, hN⟩ := run he
    exact ⟨N, by unfold evRow; rw [hg]; exact hN⟩
  · rename_i j want hg
    split at he
    · rename_i b hb
      split at he
      · rename_i hc
        obtain ⟨N, hN⟩ := run he
        exact ⟨N, by unfold evRow; rw [hg]; simp only [hb]; rw [if_pos hc]; exact hN⟩
      · rename_i hc
        exact ⟨0, by unfold evRow; rw [hg]; simp only [hb]; rw [if_neg hc]; exact he⟩
    · rename_i hb
      exact ⟨0, by unfold evRow; rw [hg]; simp only [hb]; exact he⟩
    · cases he

theorem evRows_cont {b0 : Nat} : ∀ {l : List PRow} {st st' : St}, evRows (Om T Gl) b0 l st = some st' → ∃ N, evRows (env T Gl N) b0 l st = some st'
  | [], _, _, h => ⟨0, h⟩
  | r :: l, st, st', h => by
    simp only [evRows, Option.bind_eq_some_iff] at h
    obtain ⟨s, h1, h2⟩ := h
    obtain ⟨N, hN⟩ := evRow_cont h1
    obtain ⟨M, hM⟩ := evRows_cont h2
    refine ⟨max N M, ?_⟩
    simp only [evRows, Option.bind_eq_some_iff]
    exact ⟨s, evRow_mono (env_le T Gl (Nat.le_max_left N M)) hN, evRows_mono (env_le T Gl (Nat.le_max_right N M)) hM⟩

theorem evL_cont {b0 : Nat} : ∀ (pc : PCode) {st : St} {r : Ex × St}, evL (Om T Gl) b0 pc st = some r → ∃ N, evCode (env T Gl N) b0 N pc st = some r := by
  intro pc
  induction pc with
  | skip => intro st r h; exact ⟨0, h⟩
  | exit i => intro st r h; exact ⟨0, h⟩
  | ret => intro st r h; exact ⟨0, h⟩
  | bad => intro st r h; cases h
  | holes ds x ih => intro st r h; exact ih (st := mkHoles ds st) h
  | rows l =>
    intro st r h
    simp only [evL, Option.map_eq_some_iff] at h
    obtain ⟨s, h1, e⟩ := h
    obtain ⟨N, hN⟩ := evRows_cont h1
    exact ⟨N, by simp only [evCode, Option.map_eq_some_iff]; exact ⟨s, hN, e⟩⟩
  | seq x y ihx ihy =>
    intro st r h
    simp only [evL] at h
    split at h
    · rename_i s h1
      obtain ⟨N, hN⟩ := ihx h1
      obtain ⟨M, hM⟩ := ihy h
      refine ⟨max N M, ?_⟩
      simp only [evCode]
      rw [evCode_mono (env_le T Gl (Nat.le_max_left N M)) (Nat.le_max_left N M) _ hN]
      exact evCode_mono (env_le T Gl (Nat.le_max_right N M)) (Nat.le_max_right N M) _ hM
    · rename_i x' hne
      obtain ⟨N, hN⟩ := ihx h
      refine ⟨N, ?_⟩
      simp only [evCode]
      rw [hN]
      split
      · rename_i s e; cases e; exact absurd h (hne _)
      · rfl
  | cond p x y ihx ihy =>
    intro st r h
    simp only [evL] at h
    split at h
    · rename_i t ht
      split at h
      · rename_i hc
        obtain ⟨N, hN⟩ := ihx h
        exact ⟨N, by simp only [evCode, ht]; rw [if_pos hc]; exact hN⟩
      · rename_i hc
        obtain ⟨N, hN⟩ := ihy h
        exact ⟨N, by simp only [evCode, ht]; rw [if_neg hc]; exact hN⟩
    · cases h
  | block i x ih =>
    intro st r h
    simp only [evL] at h
    split at h
    · rename_i j s h1
      obtain ⟨N, hN⟩ := ih h1
      exact ⟨N, by simp only [evCode]; rw [hN]; exact h⟩
    · rename_i x' hne
      obtain ⟨N, hN⟩ := ih h
      refine ⟨N, ?_⟩
      simp only [evCode]
      rw [hN]
      split
      · rename_i j s e; cases e; exact absurd h (hne _ _)
      · rfl
  | loop keep x ih =>
    intro st r h
    simp only [evL] at h
    obtain ⟨k, hk⟩ := lim_some h
    have L : ∀ (k : Nat) (st : St), loopN (fun s => evL (Om T Gl) b0 x (forgetBut keep s)) k st = some r → ∃ N, loopN (fun s => evCode (env T Gl N) b0 N x (forgetBut keep s)) k st = some r := by
      intro k
      induction k with
      | zero => intro st h; cases h
      | succ k ihk =>
        intro st h
        simp only [loopN] at h
        split at h
        · rename_i s h1
          obtain ⟨N, hN⟩ := ih h1
          obtain ⟨M, hM⟩ := ihk s h
          refine ⟨max N M, ?_⟩
          simp only [loopN]
          rw [evCode_mono (env_le T Gl (Nat.le_max_left N M)) (Nat.le_max_left N M) _ hN]
          exact loopN_mono (fun s r hs => evCode_mono (env_le T Gl (Nat.le_max_right N M)) (Nat.le_max_right N M) _ hs) (Nat.le_refl _) hM
        · rename_i x' hne
          obtain ⟨N, hN⟩ := ih h
          refine ⟨N, ?_⟩
          simp only [loopN]
          rw [hN]
          split
          · rename_i s e; cases e; exact absurd h (hne _)
          · rfl
    obtain ⟨N, hN⟩ := L k st hk
    refine ⟨max N k, ?_⟩
    simp only [evCode]
    exact loopN_mono (fun s r hs => evCode_mono (env_le T Gl (Nat.le_max_left N k)) (Nat.le_max_left N k) _ hs) (Nat.le_max_right N k) hN

theorem evF_cont {F : PFun} {us : List AV} {h : Store} {r : AV × Store} (he : evF (Om T Gl) F us h = some r) : ∃ N, evFun (env T Gl N) N F us h = some r := by
  unfold evF at he
  cases hc : evL (Om T Gl) h.length F.body (start F us h) with
  | none => rw [hc] at he; cases he
  | some x =>
    rw [hc] at he
    obtain ⟨N, hN⟩ := evL_cont _ hc
    exact ⟨N, by unfold evFun; rw [hN]; exact he⟩

/-- A call that gets data, by its function's text. -/
theorem Om_q {g : Nat} {F : PFun} (hT : T g = some (.code F)) {us : List AV} {r : AV} {h' : Store} {v : AV} (he : evF (Om T Gl) F us [] = some (r, h')) (hf : freeze h' r = some v) : (Om T Gl).q g us = some v := by
  obtain ⟨N, hN⟩ := evF_cont he
  refine env_q_of T Gl (n := N + 1) ?_
  simp only [env, hT, outQ, hN, Option.bind_some, hf]

theorem Om_qp {g : Nat} {f : List AV → Option AV} (hT : T g = some (.prim f)) {us : List AV} {v : AV} (he : f us = some v) : (Om T Gl).q g us = some v := by
  refine env_q_of T Gl (n := 1) ?_
  simp only [env, hT, he]

theorem Om_m {g : Nat} {F : PFun} (hT : T g = some (.code F)) {us : List AV} {h h' : Store} {r v : AV} (he : evF (Om T Gl) F us h = some (r, h')) (hr : (reachN h' 8 r).all (fun b => decide (h.length ≤ b)) = true) (hf : freeze h' r = some v) :
    (Om T Gl).m g us h = some (v, h'.take h.length) := by
  obtain ⟨N, hN⟩ := evF_cont he
  refine env_m_of T Gl (n := N + 1) ?_
  simp only [env, hT, outM, hN, Option.bind_some, hr, if_true, hf, Option.map_some]

theorem Om_k {g : Nat} {F : PFun} (hT : T g = some (.code F)) {us : List AV} {h : Store} {r : AV × Store} (he : evF (Om T Gl) F us h = some r) : (Om T Gl).k g us h = some r := by
  obtain ⟨N, hN⟩ := evF_cont he
  refine env_k_of T Gl (n := N + 1) ?_
  simp only [env, hT, hN]

/-- What the limit says holds in the model. -/
theorem Om_q_ok {P : Program} (hT : TableOK P Gl T) : QOK P Gl (Om T Gl).q := by
  intro g us v h
  obtain ⟨n, hn⟩ := lim_some h
  exact (env_ok hT n).q g us v hn
end cont

end Go.Proofs.YteaopgkajbfkeaaGreatDoor
