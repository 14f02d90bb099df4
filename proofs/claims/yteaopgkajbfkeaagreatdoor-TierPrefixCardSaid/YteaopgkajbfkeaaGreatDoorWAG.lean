/- The means by which it is shown what the functions of the program give: a walk that looks at one operation at a time. Nothing is claimed of the program here. The operations, one rule each, for the walk of Sp0; slices of data. Nothing is claimed of the program here. What the walk simplifies by itself: the rules of Sp0 and Sp1 as rewriting, and slices, strings and numbers of data. Nothing is claimed of the program here. -/
import Derived.Test.YteaopgkajbfkeaaGreatDoorWAF
import Derived.IntWalk
set_option linter.unusedSimpArgs false
set_option linter.unusedVariables false
namespace Go.Proofs.YteaopgkajbfkeaaGreatDoor
open Go

variable {C : Env} {b0 : Nat}

/-! ### Slots by their names -/

def lk (d : AV) : List (Nat × AV) → Nat → AV
  | [], _ => d
  | (k, v) :: m, n => if k = n then v else lk d m n

/-- The slots, as a list of those that are known. -/
def mkL (n : Nat) (d : AV) (m : List (Nat × AV)) : List AV := (List.range n).map (lk d m)

theorem getD_mkL {n k : Nat} {d : AV} {m : List (Nat × AV)} (h : k < n) : (mkL n d m).getD k .any = lk d m k := by
  simp [mkL, List.getD_eq_getElem?_getD, h]

theorem set_mkL (n k : Nat) (d v : AV) (m : List (Nat × AV)) : (mkL n d m).set k v = mkL n d ((k, v) :: m) := by
  apply List.ext_getElem
  · simp [mkL]
  · intro i h1 h2
    simp only [mkL, List.getElem_set, List.getElem_map, List.getElem_range, lk]

theorem forgetL_length : ∀ (ks : List Bool) (vs : List AV), (forgetL ks vs).length = vs.length
  | [], vs => by simp [forgetL]
  | _ :: _, [] => by simp [forgetL]
  | k :: ks, v :: vs => by simp [forgetL, forgetL_length ks vs]

theorem forgetL_get : ∀ (ks : List Bool) (vs : List AV) (i : Nat) (hi : i < (forgetL ks vs).length) (h1 : i < ks.length) (h2 : i < vs.length), (forgetL ks vs)[i] = if ks[i] then vs[i] else .any
  | k :: ks, v :: vs, 0, _, _, _ => by simp [forgetL]
  | k :: ks, v :: vs, i + 1, hi, h1, h2 => by
    simp only [forgetL, List.getElem_cons_succ]
    exact forgetL_get ks vs i _ _ _

theorem lk_map (f : Nat → AV) : ∀ (ks : List Nat) (i : Nat), lk .any (ks.map fun k => (k, f k)) i = if ks.contains i then f i else .any
  | [], i => by simp [lk]
  | k :: ks, i => by
    simp only [List.map_cons, lk]
    by_cases h : k = i
    · subst h; simp
    · rw [if_neg h, lk_map f ks i]
      have : (i == k) = false := by simp [Ne.symm h]
      simp only [List.contains_cons, this, Bool.false_or]

/-- The kept slots. -/
def pk (d : AV) (m : List (Nat × AV)) : List Nat → List (Nat × AV)
  | [] => []
  | k :: ks => (k, lk d m k) :: pk d m ks
theorem pk_eq (d : AV) (m : List (Nat × AV)) : ∀ ks : List Nat, pk d m ks = ks.map fun k => (k, lk d m k)
  | [] => rfl
  | k :: ks => by simp [pk, pk_eq d m ks]
theorem forgetL_mkL (n : Nat) (ks : List Nat) (d : AV) (m : List (Nat × AV)) : forgetL (kp n ks) (mkL n d m) = mkL n .any (pk d m ks) := by
  rw [pk_eq]
  apply List.ext_getElem
  · simp [forgetL_length, mkL]
  · intro i h1 h2
    have hi : i < n := by simpa [mkL] using h2
    rw [forgetL_get _ _ _ h1 (by simp [kp, hi]) (by simp [mkL, hi])]
    simp only [mkL, kp, List.getElem_map, List.getElem_range]
    rw [lk_map]

/-! ### One thing at a time -/

/-- Keeps the walk from looking ahead. -/
structure Dm {β : Sort _} (K : β) : Type where

def Wn {α : Type} (o : Option α) (K : α → Prop) (_ : Dm K) : Prop := ∃ a, o = some a ∧ K a
/-- Two ways. -/
def Wi (c A B : Prop) (_ : Dm A) (_ : Dm B) : Prop := (c → A) ∧ (¬ c → B)
/-- What must hold on the way. -/
def Wa (c A : Prop) (_ : Dm A) : Prop := c ∧ A
/-- The way at a test. -/
def Wc (v : AV) (A B : Prop) (_ : Dm A) (_ : Dm B) : Prop := ∃ t, v = .bool t ∧ if t = true then A else B
/-- The way at a guarded operation. -/
def Wg (v : AV) (want : Bool) (A B : Prop) (_ : Dm A) (_ : Dm B) : Prop := (∃ t, v = .bool t ∧ if t = want then A else B) ∨ (v = .tup [] ∧ B)
/-- The code, from the state. -/
def V (C : Env) (b0 : Nat) (pc : PCode) (st : St) (Q : Ex → St → Prop) (_ : Dm pc) (_ : Dm Q) : Prop := W C b0 pc st Q
def Vr (C : Env) (b0 : Nat) (l : List PRow) (st : St) (Q : St → Prop) (_ : Dm l) (_ : Dm Q) : Prop := Wr C b0 l st Q

theorem Wi_true {A B : Prop} {d e} : Wi True A B d e ↔ A := by simp [Wi]
theorem Wi_false {A B : Prop} {d e} : Wi False A B d e ↔ B := by simp [Wi]
theorem Wi_iff {c A B : Prop} [Decidable c] {d e} : Wi c A B d e ↔ if c then A else B := by
  by_cases h : c <;> simp [Wi, h]
theorem Wa_yes {c A : Prop} {d} (h : c) : Wa c A d ↔ A := by simp [Wa, h]
theorem Wi_yes {c A B : Prop} {d e} (h : c) : Wi c A B d e ↔ A := by simp [Wi, h]
theorem Wi_no {c A B : Prop} {d e} (h : ¬ c) : Wi c A B d e ↔ B := by simp [Wi, h]
theorem Wa_true {A : Prop} {d} : Wa True A d ↔ A := by simp [Wa]
theorem Wn_some {α : Type} {a : α} {K : α → Prop} {d} : Wn (some a) K d ↔ K a := by simp [Wn]
theorem Wn_none {α : Type} {K : α → Prop} {d} : Wn none K d ↔ False := by simp [Wn]
theorem Wn_map {α β : Type} {o : Option α} {f : α → β} {K : β → Prop} {d} : Wn (o.map f) K d ↔ Wn o (fun a => K (f a)) ⟨⟩ := by
  constructor
  · rintro ⟨a, h, k⟩
    obtain ⟨x, h1, rfl⟩ := Option.map_eq_some_iff.1 h
    exact ⟨x, h1, k⟩
  · rintro ⟨x, h1, k⟩
    exact ⟨f x, by simp [h1], k⟩
theorem Wn_bind {α β : Type} {o : Option α} {f : α → Option β} {K : β → Prop} {d} : Wn (o.bind f) K d ↔ Wn o (fun a => Wn (f a) K ⟨⟩) ⟨⟩ := by
  constructor
  · rintro ⟨a, h, k⟩
    obtain ⟨x, h1, h2⟩ := Option.bind_eq_some_iff.1 h
    exact ⟨x, h1, a, h2, k⟩
  · rintro ⟨x, h1, a, h2, k⟩
    exact ⟨a, by simp [h1, h2], k⟩
theorem Wn_ite {α : Type} {c : Prop} [Decidable c] {x y : Option α} {K : α → Prop} {d} : Wn (if c then x else y) K d ↔ Wi c (Wn x K ⟨⟩) (Wn y K ⟨⟩) ⟨⟩ ⟨⟩ := by
  rw [Wi_iff]; split <;> rfl
theorem Wn_if {α : Type} {c : Prop} [Decidable c] {x : Option α} {K : α → Prop} {d} : Wn (if c then x else none) K d ↔ Wa c (Wn x K ⟨⟩) ⟨⟩ := by
  by_cases h : c <;> simp [Wn, h, Wa]
theorem Wc_bool {t : Bool} {A B : Prop} {d e} : Wc (.bool t) A B d e ↔ Wi (t = true) A B ⟨⟩ ⟨⟩ := by simp [Wc, Wi_iff]
theorem Wc_ite {c : Prop} [Decidable c] {x y : AV} {A B : Prop} {d e} : Wc (if c then x else y) A B d e ↔ Wi c (Wc x A B ⟨⟩ ⟨⟩) (Wc y A B ⟨⟩ ⟨⟩) ⟨⟩ ⟨⟩ := by
  rw [Wi_iff]; split <;> rfl
theorem Wg_bool {t w : Bool} {A B : Prop} {d e} : Wg (.bool t) w A B d e ↔ Wi (t = w) A B ⟨⟩ ⟨⟩ := by simp [Wg, Wi_iff]
theorem Wg_skip {w : Bool} {A B : Prop} {d e} : Wg (.tup []) w A B d e ↔ B := by simp [Wg]

theorem Vr_nil {st : St} {Q : St → Prop} {d e} : Vr C b0 [] st Q d e ↔ Q st := by simp [Vr, Wr, evRows]
theorem Vr_cons {o : Option Nat} {op : POp} {rs : List PRow} {sl : List AV} {h : Store} {Q : St → Prop} {d e} : Vr C b0 (⟨o, none, op⟩ :: rs) (sl, h) Q d e ↔ Wn (evOp C b0 op sl h) (fun x => Vr C b0 rs (putRes ⟨o, none, op⟩ x.1 sl, x.2) Q ⟨⟩ ⟨⟩) ⟨⟩ := by
  constructor
  · rintro ⟨st, h1, h2⟩
    simp only [evRows, evRow, runRow, Option.bind_eq_some_iff, Option.map_eq_some_iff] at h1
    obtain ⟨_, ⟨x, h3, rfl⟩, h4⟩ := h1
    exact ⟨x, h3, st, h4, h2⟩
  · rintro ⟨x, h3, st, h4, h2⟩
    refine ⟨st, ?_, h2⟩
    simp only [evRows, evRow, runRow, Option.bind_eq_some_iff, Option.map_eq_some_iff]
    exact ⟨_, ⟨x, h3, rfl⟩, h4⟩
theorem Wn_pick {c a b : POpd} {sl : List AV} {h : Store} {K : AV × Store → Prop} {d} : Wn (evOp C b0 (.pick c a b) sl h) K d ↔ Wc (c.get sl) (K ((a.get sl).untip, h)) (K ((b.get sl).untip, h)) ⟨⟩ ⟨⟩ := by
  constructor
  · rintro ⟨x, h1, h2⟩
    simp only [evOp] at h1
    split at h1
    · rename_i hc
      cases h1
      exact ⟨true, hc, h2⟩
    · rename_i hc
      cases h1
      exact ⟨false, hc, h2⟩
    · cases h1
  · rintro ⟨t, hc, h2⟩
    cases t with
    | true => exact ⟨((a.get sl).untip, h), by simp only [evOp, hc], h2⟩
    | false => exact ⟨((b.get sl).untip, h), by simp only [evOp, hc], h2⟩
theorem Vr_guard {o : Option Nat} {j : Nat} {w : Bool} {op : POp} {rs : List PRow} {sl : List AV} {h : Store} {Q : St → Prop} {d e} : Vr C b0 (⟨o, some (j, w), op⟩ :: rs) (sl, h) Q d e ↔
    Wg (sl.getD j .any) w (Wn (evOp C b0 op sl h) (fun x => Vr C b0 rs (putRes ⟨o, none, op⟩ x.1 sl, x.2) Q ⟨⟩ ⟨⟩) ⟨⟩) (Vr C b0 rs (skipRes ⟨o, none, op⟩ sl, h) Q ⟨⟩ ⟨⟩) ⟨⟩ ⟨⟩ := by
  have hp : ∀ v, putRes ⟨o, some (j, w), op⟩ v sl = putRes ⟨o, none, op⟩ v sl := fun v => rfl
  have hk : skipRes ⟨o, some (j, w), op⟩ sl = skipRes ⟨o, none, op⟩ sl := rfl
  constructor
  · rintro ⟨st, h1, h2⟩
    simp only [evRows, Option.bind_eq_some_iff] at h1
    obtain ⟨s, h3, h4⟩ := h1
    unfold evRow at h3
    simp only at h3
    split at h3
    · rename_i t ht
      refine .inl ⟨t, ht, ?_⟩
      split at h3
      · rename_i e
        rw [if_pos e]
        simp only [runRow, Option.map_eq_some_iff] at h3
        obtain ⟨x, h5, rfl⟩ := h3
        exact ⟨x, h5, st, h4, h2⟩
      · rename_i e
        rw [if_neg e]
        cases h3
        rw [hk] at h4
        exact ⟨st, h4, h2⟩
    · rename_i ht
      cases h3
      rw [hk] at h4
      exact .inr ⟨ht, st, h4, h2⟩
    · cases h3
  · rintro (⟨t, ht, h1⟩ | ⟨ht, st, h4, h2⟩)
    · split at h1
      · rename_i e
        obtain ⟨x, h5, st, h4, h2⟩ := h1
        refine ⟨st, ?_, h2⟩
        simp only [evRows, Option.bind_eq_some_iff, evRow, ht, e, if_true, runRow, Option.map_eq_some_iff]
        exact ⟨_, ⟨x, h5, rfl⟩, h4⟩
      · rename_i e
        obtain ⟨st, h4, h2⟩ := h1
        refine ⟨st, ?_, h2⟩
        simp only [evRows, Option.bind_eq_some_iff, evRow, ht, if_neg e]
        exact ⟨_, rfl, by rw [hk]; exact h4⟩
    · refine ⟨st, ?_, h2⟩
      simp only [evRows, Option.bind_eq_some_iff, evRow, ht]
      exact ⟨_, rfl, by rw [hk]; exact h4⟩

theorem V_rows {l : List PRow} {st : St} {Q : Ex → St → Prop} {d e} : V C b0 (.rows l) st Q d e ↔ Vr C b0 l st (fun s => Q .nrm s) ⟨⟩ ⟨⟩ := W_rows
theorem V_if {c : POpd} {a b : PCode} {sl : List AV} {h : Store} {Q : Ex → St → Prop} {d e} : V C b0 (.cond c a b) (sl, h) Q d e ↔ Wc (c.get sl) (V C b0 a (sl, h) Q ⟨⟩ ⟨⟩) (V C b0 b (sl, h) Q ⟨⟩ ⟨⟩) ⟨⟩ ⟨⟩ := by
  unfold V
  rw [W_cond]
  unfold Wc
  constructor
  · rintro ⟨t, h1, h2⟩; exact ⟨t, h1, h2⟩
  · rintro ⟨t, h1, h2⟩; exact ⟨t, h1, h2⟩
theorem V_skip {st : St} {Q : Ex → St → Prop} {d e} : V C b0 .skip st Q d e ↔ Q .nrm st := W_skip
theorem V_ret {st : St} {Q : Ex → St → Prop} {d e} : V C b0 .ret st Q d e ↔ Q .ret st := W_ret
theorem V_exit {i : Nat} {st : St} {Q : Ex → St → Prop} {d e} : V C b0 (.exit i) st Q d e ↔ Q (.exit i) st := W_exit
theorem V_seq {a b : PCode} {st : St} {Q : Ex → St → Prop} {d e} : V C b0 (.seq a b) st Q d e ↔ V C b0 a st (seqQ (fun s => V C b0 b s Q ⟨⟩ ⟨⟩) Q) ⟨⟩ ⟨⟩ := W_seq
theorem V_block {i : Nat} {a : PCode} {st : St} {Q : Ex → St → Prop} {d e} : V C b0 (.block i a) st Q d e ↔ V C b0 a st (blockQ i Q) ⟨⟩ ⟨⟩ := W_block
theorem V_holes {ds : List Nat} {a : PCode} {st : St} {Q : Ex → St → Prop} {d e} : V C b0 (.holes ds a) st Q d e ↔ V C b0 a (mkHoles ds st) Q ⟨⟩ ⟨⟩ := Iff.rfl

theorem seqQ_nrm {P : St → Prop} {Q : Ex → St → Prop} {st : St} : seqQ P Q .nrm st ↔ P st := Iff.rfl
theorem seqQ_exit {P : St → Prop} {Q : Ex → St → Prop} {i : Nat} {st : St} : seqQ P Q (.exit i) st ↔ Q (.exit i) st := Iff.rfl
theorem seqQ_ret {P : St → Prop} {Q : Ex → St → Prop} {st : St} : seqQ P Q .ret st ↔ Q .ret st := Iff.rfl
theorem blockQ_nrm {i : Nat} {Q : Ex → St → Prop} {st : St} : blockQ i Q .nrm st ↔ Q .nrm st := Iff.rfl
theorem blockQ_ret {i : Nat} {Q : Ex → St → Prop} {st : St} : blockQ i Q .ret st ↔ Q .ret st := Iff.rfl
theorem blockQ_same {i : Nat} {Q : Ex → St → Prop} {st : St} : blockQ i Q (.exit i) st ↔ Q .nrm st := by simp [blockQ]
theorem blockQ_other {i j : Nat} {Q : Ex → St → Prop} {st : St} (h : j ≠ i) : blockQ i Q (.exit j) st ↔ Q (.exit j) st := by simp [blockQ, h]

/-- One round of a loop: for loops of a known number of rounds. -/
theorem V_round {keep : List Bool} {a : PCode} {st : St} {Q : Ex → St → Prop} {d e} : V C b0 (.loop keep a) st Q d e ↔ V C b0 a (forgetBut keep st) (seqQ (fun s => V C b0 (.loop keep a) s Q ⟨⟩ ⟨⟩) Q) ⟨⟩ ⟨⟩ := by
  constructor
  · rintro ⟨ex, s, h1, h2⟩
    simp only [evL] at h1
    rw [loopL_step] at h1
    split at h1
    · rename_i s' h3
      exact ⟨.nrm, s', h3, ex, s, by simp only [evL]; exact h1, h2⟩
    · rename_i hne
      refine ⟨ex, s, h1, ?_⟩
      cases ex with
      | nrm => exact absurd h1 (hne _)
      | exit i => exact h2
      | ret => exact h2
  · rintro ⟨ex, s, h1, h2⟩
    cases ex with
    | nrm =>
      obtain ⟨ex', s', h3, h4⟩ := h2
      refine ⟨ex', s', ?_, h4⟩
      simp only [evL] at h3 ⊢
      rw [loopL_step, h1]
      exact h3
    | exit i => exact ⟨.exit i, s, by simp only [evL]; rw [loopL_step, h1], h2⟩
    | ret => exact ⟨.ret, s, by simp only [evL]; rw [loopL_step, h1], h2⟩

/-- A loop, by what holds at its heads. -/
theorem V.loop {α : Type} (Inv : α → Prop) (I : α → St) (m : α → Nat) {keep : List Bool} {a : PCode} {Q : Ex → St → Prop}
    (hs : ∀ x, Inv x → V C b0 a (I x) (seqQ (fun s => ∃ y, Inv y ∧ m y < m x ∧ forgetBut keep s = I y) Q) ⟨⟩ ⟨⟩) {st : St} (x : α) (hi : Inv x) (hx : forgetBut keep st = I x) {d e} : V C b0 (.loop keep a) st Q d e := by
  refine W.loop (α := {x // Inv x}) (fun x => I x.1) (fun x => m x.1) ?_ ⟨x, hi⟩ hx
  intro ⟨x, hi⟩
  refine W.mono (hs x hi) ?_
  intro e s h
  cases e with
  | nrm => obtain ⟨y, h1, h2, h3⟩ := h; exact ⟨⟨y, h1⟩, h2, h3⟩
  | exit i => exact h
  | ret => exact h

/-- The way goes on as it must. -/
theorem V.mono {a : PCode} {st : St} {Q Q' : Ex → St → Prop} {d e d' e'} (h : V C b0 a st Q d e) (hq : ∀ e s, Q e s → Q' e s) : V C b0 a st Q' d' e' := W.mono h hq

theorem start_eq {F : PFun} {us : List AV} {h : Store} (hn : us.length ≤ F.nt) : start F us h = (mkL F.nt (.tup []) (us.zipIdx.map fun p => (p.2, p.1)), h) := by
  have key : ∀ (us : List AV) (k i : Nat), lk (.tup []) ((us.zipIdx k).map fun p => (p.2, p.1)) i = if h : k ≤ i ∧ i - k < us.length then us[i - k]'h.2 else .tup [] := by
    intro us
    induction us with
    | nil => intro k i; simp [lk]
    | cons u us ih =>
      intro k i
      simp only [List.zipIdx_cons, List.map_cons, lk]
      by_cases e : k = i
      · subst e; simp
      · rw [if_neg e, ih]
        by_cases h1 : k + 1 ≤ i
        · have e1 : i - k = (i - (k + 1)) + 1 := by omega
          simp only [e1, List.length_cons, List.getElem_cons_succ]
          by_cases h2 : i - (k + 1) < us.length
          · rw [dif_pos ⟨h1, h2⟩, dif_pos ⟨by omega, by omega⟩]
          · rw [dif_neg (by omega), dif_neg (by omega)]
        · rw [dif_neg (by omega), dif_neg (by omega)]
  unfold start
  congr 1
  apply List.ext_getElem
  · simp [mkL]; omega
  · intro i h1 h2
    simp only [mkL, List.getElem_map, List.getElem_range, key, Nat.zero_le, true_and, Nat.sub_zero]
    by_cases hi : i < us.length
    · rw [dif_pos hi, List.getElem_append_left hi]
    · rw [dif_neg hi, List.getElem_append_right (by omega), List.getElem_replicate]

/-- A function, by its text. -/
theorem Gives_of {F : PFun} {us : List AV} {h : Store} {P : AV → Store → Prop} (hn' : Nat.ble us.length F.nt = true)
    (hw : V C h.length F.body (mkL F.nt (.tup []) (us.zipIdx.map fun p => (p.2, p.1)), h) (fun ex st => (∀ i, ex ≠ .exit i) ∧ Wn (F.res.mapM (PRes.get st)) (fun vs => P (one? vs) st.2) ⟨⟩) ⟨⟩ ⟨⟩) : Gives' C F us h P := by
  refine Gives'.of ?_
  rw [start_eq (Nat.le_of_ble_eq_true hn')]
  refine W.mono hw ?_
  rintro e s ⟨h1, vs, h2, h3⟩
  exact ⟨h1, vs, h2, h3⟩

section
variable {T : Nat → Option Ent} {Gl : Nat → Option (List AV)}

/-- A call with data, by what its function gives. -/
theorem q_of {g : Nat} {F : PFun} (hT : T g = some (.code F)) {us : List AV} {u : AV} (h : Gives' (Om T Gl) F us [] fun v h' => freeze h' v = some u) : (Om T Gl).q g us = some u := by
  obtain ⟨v, h', h1, h2⟩ := h
  exact Om_q hT h1 h2

/-- A call on the common memory, by what its function gives. -/
theorem m_of {g : Nat} {F : PFun} (hT : T g = some (.code F)) {us : List AV} {h h2 : Store} {u : AV} (hh : Gives' (Om T Gl) F us h fun v h' => freeze h' v = some u ∧ (reachN h' 8 v).all (fun b => decide (h.length ≤ b)) = true ∧ h'.take h.length = h2) : (Om T Gl).m g us h = some (u, h2) := by
  obtain ⟨v, h', h1, h3, h4, rfl⟩ := hh
  exact Om_m hT h1 h4 h3

/-- A call whose result is kept. -/
theorem k_of {g : Nat} {F : PFun} (hT : T g = some (.code F)) {us : List AV} {h : Store} {r : AV × Store} (hh : Gives' (Om T Gl) F us h fun v h' => (v, h') = r) : (Om T Gl).k g us h = some r := by
  obtain ⟨v, h', h1, rfl⟩ := hh
  exact Om_k hT h1
end

end Go.Proofs.YteaopgkajbfkeaaGreatDoor
namespace Go.Proofs.YteaopgkajbfkeaaGreatDoor
open Go

variable {C : Env} {b0 : Nat} {sl : List AV} {h : Store}

/-! ### Slices of data -/

/-- A slice: nil, or its elements. -/
abbrev Sl (α : Type) := Option (List α)
/-- Its elements. -/
def lst {α : Type} (o : Sl α) : List α := o.getD []
@[simp] theorem lst_none {α : Type} : lst (none : Sl α) = [] := rfl
@[simp] theorem lst_some {α : Type} {l : List α} : lst (some l) = l := rfl
def slA {α : Type} (e : Nat) (f : α → AV) : Sl α → AV
  | none => .nils
  | some l => .sl e (l.map f)
def gA {α : Type} (e : Nat) (f : α → AV) : Sl α → AV
  | none => .nils
  | some l => .gsl e (l.map f)
/-- What an append leaves. -/
def appS {α : Type} (o : Sl α) (l : List α) : Sl α := match o with | none => if l = [] then none else some l | some x => some (x ++ l)
@[simp] theorem lst_appS {α : Type} (o : Sl α) (l : List α) : lst (appS o l) = lst o ++ l := by
  cases o
  · by_cases e : l = [] <;> simp [appS, e]
  · simp [appS]

theorem slA_nils {α : Type} {e : Nat} {f : α → AV} : slA e f none = .nils := rfl
theorem gA_nils {α : Type} {e : Nat} {f : α → AV} : gA e f none = .nils := rfl

/-! ### What an operation asks of a value -/

def lenV : AV → Option Nat
  | .nils => some 0
  | .sl _ vs => some vs.length
  | .gsl _ vs => some vs.length
  | .osl _ _ len _ => some len
  | _ => none
def strV : AV → Option (List UInt8)
  | .str s => some s
  | _ => none
def boolV : AV → Option Bool
  | .bool b => some b
  | _ => none
def aggV : AV → Option (List AV)
  | .agg cs => some cs
  | _ => none
def tupV : AV → Option (List AV)
  | .tup cs => some cs
  | _ => none
def islV (h : Store) (esz : Nat) (v : AV) (j : Nat) : Option AV :=
  match v with
  | .sl e vs => if e = esz then (vs[j]?).map fun v => .eref v.cells 0 else none
  | .gsl e vs => if e = esz then (vs[j]?).map fun v => .eref v.cells 0 else none
  | .osl b off len _ => (getB h b).bind fun blk => if blk.esz = esz ∧ j < len then some (.ref b (off + j * esz)) else none
  | _ => none
def unt (ag : Bool) (v : AV) : AV := if ag then .agg (v.cells.map AV.untip) else v.untip
def loadV (C : Env) (h : Store) (ag : Bool) (sz : Nat) (v : AV) : Option AV :=
  match v with
  | .ref b off => (getB h b).bind fun blk => (partOf ag sz off (.agg blk.cells)).map (unt ag)
  | .eref cs off => partOf ag sz off (.agg cs)
  | .gptr g off => (C.g g).bind fun cs => partOf ag sz off (.agg cs)
  | _ => none
def faV (off : Nat) : AV → Option AV
  | .ref b o => some (.ref b (o + off))
  | .eref cs o => some (.eref cs (o + off))
  | .gptr g o => some (.gptr g (o + off))
  | _ => none
def slslV (h : Store) (esz : Nat) (sl : List AV) (lo hi mx : Option POpd) : AV → Option AV
  | .nils => (bounds sl 0 0 lo hi mx).map fun _ => .nils
  | .sl e vs => if e = esz then (bounds sl vs.length vs.length lo hi mx).map fun x => (if mx.isSome ∧ x.2.1 = x.2.2 then .gsl e ((vs.take x.2.1).drop x.1) else .sl e ((vs.take x.2.1).drop x.1)) else none
  | .gsl e vs => if e = esz then (bounds sl vs.length vs.length lo hi mx).map fun x => (if mx.isSome ∧ x.2.1 = x.2.2 then .gsl e ((vs.take x.2.1).drop x.1) else .sl e ((vs.take x.2.1).drop x.1)) else none
  | .osl b off len cap => (getB h b).bind fun blk => if blk.esz = esz then (bounds sl len cap lo hi mx).map fun x => .osl b (off + x.1 * esz) (x.2.1 - x.1) (x.2.2 - x.1) else none
  | _ => none
def appV (esz : Nat) (ws : List AV) : AV → Option AV
  | .nils => if ws.length ≤ LIM then some (if ws = [] then .nils else .gsl esz ws) else none
  | .gsl e vs => if e = esz ∧ vs.length + ws.length ≤ LIM then some (.gsl esz (vs ++ ws)) else none
  | _ => none
def refV : AV → Option (Nat × Nat)
  | .ref b o => some (b, o)
  | _ => none

/-- The arguments of a call, as data. -/
def fz (h : Store) (sl : List AV) : List POpd → Option (List AV)
  | [] => some []
  | x :: xs => (freeze h (x.get sl)).bind fun v => (fz h sl xs).map fun vs => v :: vs
theorem fz_eq : ∀ args : List POpd, (args.mapM fun x => freeze h (x.get sl)) = fz h sl args
  | [] => rfl
  | x :: xs => by
    simp only [List.mapM_cons, fz, fz_eq xs]
    cases freeze h (x.get sl) <;> simp
    cases fz h sl xs <;> simp
/-- The blocks that the arguments reach. -/
def rz (h : Store) (sl : List AV) : List POpd → List Nat
  | [] => []
  | x :: xs => reachN h 8 (x.get sl) ++ rz h sl xs
theorem rz_eq : ∀ args : List POpd, (args.flatMap fun x => reachN h 8 (x.get sl)) = rz h sl args
  | [] => rfl
  | x :: xs => by simp only [List.flatMap_cons, rz, rz_eq xs]

theorem ev_len {x : POpd} : evOp C b0 (.len false x) sl h = (lenV (x.get sl)).map fun n => (.int .i64 n, h) := by
  simp only [evOp]; cases x.get sl <;> simp [lenV]
theorem ev_lens {x : POpd} : evOp C b0 (.len true x) sl h = (strV (x.get sl)).map fun s => (.int .i64 s.length, h) := by
  simp only [evOp]; cases x.get sl <;> simp [strV]
theorem ev_lenc {n : Nat} : evOp C b0 (.lenc n) sl h = some (.int .i64 n, h) := rfl
theorem ev_mv {x : POpd} : evOp C b0 (.mv x) sl h = some ((x.get sl).untip, h) := rfl
theorem ev_tk {n : Nat} : evOp C b0 (.tk n) sl h = some (sl.getD n .any, h) := rfl
theorem ev_pick {c a b : POpd} : evOp C b0 (.pick c a b) sl h = (boolV (c.get sl)).map fun t => (if t then (a.get sl).untip else (b.get sl).untip, h) := by
  simp only [evOp]; cases c.get sl <;> simp [boolV]
  rename_i t; cases t <;> simp
theorem ev_alloc {esz : Nat} {ag : Bool} {z : List KV} : evOp C b0 (.alloc esz ag z) sl h = some (.ref h.length 0, h ++ [⟨z.map KV.av, esz, ag, false⟩]) := rfl
def holeV : AV → Option Nat
  | .hole n => some n
  | _ => none
theorem ev_allocH {d esz : Nat} {ag : Bool} {z : List KV} : evOp C b0 (.allocH d esz ag z) sl h = (holeV (sl.getD d .any)).bind fun n => (h[n]?).bind fun blk => if blk.esz = 0 ∧ b0 ≤ n ∧ esz ≠ 0 then some (.ref n 0, h.set n ⟨z.map KV.av, esz, ag, false⟩) else none := by
  simp only [evOp]
  cases sl.getD d .any <;> try rfl
  rename_i n
  simp only [holeV, Option.bind_some]
  cases h[n]? <;> rfl
theorem ev_box {esz sz : Nat} {ag : Bool} {x : POpd} : evOp C b0 (.box esz ag sz x) sl h = ((x.get sl).cellsOf).bind fun cs => if cs.length = sz then some (.ref h.length 0, h ++ [⟨cs.map AV.untip, esz, ag, false⟩]) else none := by
  simp only [evOp]; cases (x.get sl).cellsOf <;> simp
theorem ev_build {z : List KV} {ps : List (Nat × Nat × POpd)} : evOp C b0 (.build z ps) sl h = (fillParts sl ps (z.map KV.av)).map fun cs => (.agg cs, h) := rfl
theorem ev_buildSl {own ag : Bool} {esz len : Nat} {z : List KV} {ps : List (Nat × POpd)} : evOp C b0 (.buildSl own esz ag len z ps) sl h = (fillParts sl (ps.map fun p => (p.1 * esz, esz, p.2)) (List.replicate len (z.map KV.av)).flatten).bind fun cs =>
      if own then some (.osl h.length 0 len len, h ++ [⟨cs, esz, ag, false⟩])
      else if cs.all AV.closed then some (.gsl esz (chunks ag esz len cs), h) else none := rfl
theorem ev_load {ag : Bool} {sz : Nat} {x : POpd} : evOp C b0 (.load ag sz x) sl h = (loadV C h ag sz (x.get sl)).map fun v => (v, h) := by
  simp only [evOp]; cases x.get sl <;> simp [loadV]
  · rename_i b off
    cases getB h b <;> simp [Function.comp_def, unt]
  · rename_i g off
    cases C.g g <;> simp
theorem ev_store {sz : Nat} {a v : POpd} : evOp C b0 (.store sz a v) sl h = (refV (a.get sl)).bind fun p => (getB h p.1).bind fun blk => ((v.get sl).cellsOf).bind fun cs =>
    if blk.ro = false ∧ cs.length = sz ∧ p.2 + sz ≤ blk.cells.length ∧ (b0 ≤ p.1 ∨ (v.get sl).lower 0 = true) then some (.tup [], h.set p.1 { blk with cells := splice blk.cells p.2 (cs.map AV.untip) }) else none := by
  simp only [evOp]; cases a.get sl <;> simp [refV]
  rename_i b off
  cases getB h b <;> simp
  cases (v.get sl).cellsOf <;> simp
theorem ev_loadT {x : POpd} : evOp C b0 (.loadT x) sl h = (refV (x.get sl)).bind fun p => (getB h p.1).bind fun blk => (blk.cells[p.2]?).map fun v => (v, h.set p.1 { blk with cells := blk.cells.set p.2 v.untip }) := by
  simp only [evOp]; cases x.get sl <;> simp [refV]
  rename_i b off
  cases getB h b <;> simp
  rename_i blk
  cases blk.cells[off]? <;> simp
theorem ev_storeT {a : POpd} {n : Nat} : evOp C b0 (.storeT a n) sl h = (refV (a.get sl)).bind fun p => (getB h p.1).bind fun blk =>
    if blk.ro = false ∧ p.2 < blk.cells.length ∧ (sl.getD n .any).one = true ∧ (b0 ≤ p.1 ∨ (sl.getD n .any).lower 0 = true) then some (.tup [], h.set p.1 { blk with cells := blk.cells.set p.2 (sl.getD n .any) }) else none := by
  simp only [evOp]; cases a.get sl <;> simp [refV]
  rename_i b off
  cases getB h b <;> simp
theorem ev_bin {op : BinOp} {x y : POpd} : evOp C b0 (.bin op x y) sl h = (evBin op (x.get sl) (y.get sl)).map fun v => (v, h) := rfl
theorem ev_eqv {neg : Bool} {k : EqK} {x y : POpd} : evOp C b0 (.eqv neg k x y) sl h = (evEq k (x.get sl) (y.get sl)).map fun b => (.bool (if neg then !b else b), h) := rfl
theorem ev_un {op : UnOp} {x : POpd} : evOp C b0 (.un op x) sl h = (evUn op (x.get sl)).map fun v => (v, h) := rfl
theorem ev_conv {c : PConv} {x : POpd} : evOp C b0 (.conv c x) sl h = (evConv h c (x.get sl)).map fun v => (v, h) := rfl
theorem ev_mkfn {f : Nat} {a b : List POpd} : evOp C b0 (.mkfn f a b) sl h = some (.fn f (a.map fun x => (x.get sl).untip) (b.map fun x => (x.get sl).untip), h) := rfl
theorem ev_mksl {own ag : Bool} {esz : Nat} {z : List KV} {len cap : POpd} : evOp C b0 (.mksl own esz ag z len cap) sl h = (asIdx (len.get sl)).bind fun l => (asIdx (cap.get sl)).bind fun c => if l ≤ c ∧ c ≤ LIM then
        if own then some (.osl h.length 0 l c, h ++ [⟨(List.replicate c (z.map KV.av)).flatten, esz, ag, false⟩])
        else some (.gsl esz (List.replicate l (if ag then .agg (z.map KV.av) else (z.map KV.av).headD .any)), h)
      else none := by
  simp only [evOp]; cases asIdx (len.get sl) <;> simp
  cases asIdx (cap.get sl) <;> simp
theorem ev_slstr {x : POpd} {lo hi : Option POpd} : evOp C b0 (.slstr x lo hi) sl h = (strV (x.get sl)).bind fun s => (bounds sl s.length s.length lo hi none).map fun x => (.str ((s.take x.2.1).drop x.1), h) := by
  simp only [evOp]; cases x.get sl <;> simp [strV]
theorem ev_slsl {esz : Nat} {x : POpd} {lo hi mx : Option POpd} : evOp C b0 (.slsl esz x lo hi mx) sl h = (slslV h esz sl lo hi mx (x.get sl)).map fun v => (v, h) := by
  simp only [evOp]; cases x.get sl <;> simp [slslV, Function.comp_def]
  · split <;> simp [Function.comp_def]
  · split <;> simp [Function.comp_def]
  · rename_i b off len cap
    cases getB h b <;> simp
    split <;> simp [Function.comp_def]
theorem ev_slarr {n esz : Nat} {x : POpd} {lo hi mx : Option POpd} : evOp C b0 (.slarr n esz x lo hi mx) sl h = (refV (x.get sl)).bind fun p => (getB h p.1).bind fun blk => if blk.esz = esz ∧ p.2 + n * esz ≤ blk.cells.length then (bounds sl n n lo hi mx).map fun y => (.osl p.1 (p.2 + y.1 * esz) (y.2.1 - y.1) (y.2.2 - y.1), h) else none := by
  simp only [evOp]; cases x.get sl <;> simp [refV]
  rename_i b off
  cases getB h b <;> simp
theorem ev_faddr {off : Nat} {x : POpd} : evOp C b0 (.faddr off x) sl h = (faV off (x.get sl)).map fun v => (v, h) := by
  simp only [evOp]; cases x.get sl <;> simp [faV]
theorem ev_field {ag : Bool} {off sz : Nat} {x : POpd} : evOp C b0 (.field ag off sz x) sl h = (aggV (x.get sl)).bind fun cs => (partOf ag sz off (.agg cs)).map fun v => (unt ag v, h) := by
  simp only [evOp]; cases x.get sl <;> simp [aggV, unt]
theorem ev_iarr {n esz : Nat} {x i : POpd} : evOp C b0 (.iarr n esz x i) sl h = (asIdx (i.get sl)).bind fun j => if j < n then (faV (j * esz) (x.get sl)).map fun v => (v, h) else none := by
  simp only [evOp]; cases asIdx (i.get sl) <;> simp
  split <;> try rfl
  cases x.get sl <;> simp [faV]
theorem ev_isl {esz : Nat} {x i : POpd} : evOp C b0 (.isl esz x i) sl h = (asIdx (i.get sl)).bind fun j => (islV h esz (x.get sl) j).map fun v => (v, h) := by
  simp only [evOp]; cases asIdx (i.get sl) <;> simp
  cases x.get sl <;> simp [islV]
  · split <;> simp [Function.comp_def]
  · split <;> simp [Function.comp_def]
  · rename_i b off len cap
    cases getB h b <;> simp
theorem ev_ixarr {n esz : Nat} {ag : Bool} {x i : POpd} : evOp C b0 (.ixarr n esz ag x i) sl h = (asIdx (i.get sl)).bind fun j => (aggV (x.get sl)).bind fun cs => if j < n then (partOf ag esz (j * esz) (.agg cs)).map fun v => (unt ag v, h) else none := by
  simp only [evOp]; cases asIdx (i.get sl) <;> simp
  cases x.get sl <;> simp [aggV, unt]
theorem ev_ixstr {x i : POpd} : evOp C b0 (.ixstr x i) sl h = (asIdx (i.get sl)).bind fun j => (strV (x.get sl)).bind fun s => (s[j]?).map fun b => (.int .u8 b.toNat, h) := by
  simp only [evOp]; cases asIdx (i.get sl) <;> simp
  cases x.get sl <;> simp [strV]
theorem ev_ext {x : POpd} {i : Nat} : evOp C b0 (.ext x i) sl h = (tupV (x.get sl)).bind fun vs => (vs[i]?).map fun v => (v.untip, h) := by
  simp only [evOp]; cases x.get sl <;> simp [tupV]
theorem ev_max {xs : List POpd} : evOp C b0 (.max xs) sl h = match xs.map (POpd.get sl) with | x :: r => (r.foldlM evMax x).map fun v => (v, h) | [] => none := rfl
theorem ev_min {xs : List POpd} : evOp C b0 (.min xs) sl h = match xs.map (POpd.get sl) with | x :: r => (r.foldlM evMin x).map fun v => (v, h) | [] => none := rfl
theorem ev_app {esz : Nat} {s x : POpd} : evOp C b0 (.app esz s x) sl h = (news h esz (x.get sl)).bind fun ws => if ws.all AV.closed then (appV esz ws (s.get sl)).map fun v => (v, h) else none := by
  simp only [evOp]; cases news h esz (x.get sl) <;> simp
  split <;> try rfl
  cases s.get sl <;> simp [appV]
theorem ev_callq {g : Nat} {args : List POpd} : evOp C b0 (.callq g args) sl h = (fz h sl args).bind fun vs => (C.q g vs).bind fun v => if (rz h sl args).isEmpty || v.flat then some (v, h) else none := by
  simp only [evOp, fz_eq, rz_eq]
theorem ev_callqs {g : Nat} {args : List POpd} : evOp C b0 (.callqs g args) sl h = (fz h sl args).bind fun vs => (C.q g vs).map fun v => (v, sealAll h (rz h sl args)) := by
  simp only [evOp, fz_eq, rz_eq]
theorem ev_callm {g : Nat} {args : List POpd} : evOp C b0 (.callm g args) sl h = C.m g (args.map fun x => (x.get sl).untip) h := rfl
theorem ev_callk {g : Nat} {args : List POpd} : evOp C b0 (.callk g args) sl h = C.k g (args.map fun x => (x.get sl).untip) h := rfl
def fnV : AV → Option (Nat × List AV × List AV)
  | .fn g a b => some (g, a, b)
  | _ => none
theorem ev_callv {f : POpd} {args : List POpd} : evOp C b0 (.callv f args) sl h = (fnV (f.get sl)).bind fun p => C.m p.1 (p.2.1.map AV.untip ++ args.map (fun x => (x.get sl).untip) ++ p.2.2.map AV.untip) h := by
  simp only [evOp]; cases f.get sl <;> simp [fnV]
theorem ev_nilchk {x : POpd} : evOp C b0 (.nilchk x) sl h = match x.get sl with | .ref b o => some (.ref b o, h) | .eref cs o => some (.eref cs o, h) | .gptr g o => some (.gptr g o, h) | .fn f a b => some (.fn f a b, h) | _ => none := rfl
theorem ev_mkif {t : Nat} {x : POpd} : evOp C b0 (.mkif t x) sl h = if (x.get sl).closed then some (.iface t (x.get sl), h) else none := rfl
theorem ev_buildZ {e : Nat} : evOp C b0 (.buildZ e) sl h = some (.z e, h) := rfl
def slzV (h : Store) (esz : Nat) : AV → Option AV
  | .nils => some .nils
  | .sl e _ => if e = esz then some (.z esz) else none
  | .gsl e _ => if e = esz then some (.z esz) else none
  | .osl b _ _ _ => (getB h b).bind fun blk => if blk.esz = esz then some (.z esz) else none
  | _ => none
theorem ev_slz {esz : Nat} {x : POpd} : evOp C b0 (.slz esz x) sl h = (slzV h esz (x.get sl)).map fun v => (v, h) := by
  simp only [evOp]; cases x.get sl <;> simp [slzV]
  rename_i b off len cap
  cases getB h b
  · rfl
  · simp
theorem ev_loadD {q : Nat} {ag : Bool} {sz : Nat} {x : POpd} : evOp C b0 (.loadD q ag sz x) sl h = (refV (sl.getD q .any)).bind fun p => (refV (x.get sl)).bind fun r => if p.1 = r.1 then none else (getB h r.1).bind fun blk => (partOf ag sz r.2 (.agg blk.cells)).map fun v => (unt ag v, h) := by
  simp only [evOp]
  cases sl.getD q .any <;> simp [refV]
  cases x.get sl <;> simp
  split <;> try rfl
  rename_i b _ _
  cases getB h b <;> simp [unt]

end Go.Proofs.YteaopgkajbfkeaaGreatDoor
namespace Go.Proofs.YteaopgkajbfkeaaGreatDoor
open Go

attribute [simp] Wn_some Wn_none Wn_map Wn_bind Wn_ite Wc_ite Wc_bool Wg_bool Wg_skip Wi_true Wi_false Wa_true Vr_nil Vr_cons Vr_guard V_rows V_if V_holes V_skip V_ret V_exit V_seq V_block seqQ_nrm seqQ_exit seqQ_ret blockQ_nrm blockQ_same blockQ_other blockQ_ret
attribute [simp 1100] Wn_if Wn_pick
attribute [simp 900] Wa_yes Wi_yes Wi_no
attribute [simp] ev_len ev_lens ev_lenc ev_mv ev_tk ev_alloc ev_allocH ev_box ev_build ev_buildSl ev_load ev_store ev_loadT ev_storeT ev_bin ev_eqv ev_un ev_conv ev_mkfn ev_mksl ev_slstr ev_slsl ev_slarr ev_faddr ev_field ev_iarr ev_isl ev_ixarr ev_ixstr ev_ext ev_max ev_min ev_app ev_callq ev_callqs ev_callm ev_callk ev_callv ev_nilchk ev_mkif ev_buildZ ev_slz ev_loadD
attribute [simp] putRes skipRes set_mkL forgetBut forgetL_mkL bounds

/-- The words' operations bit by bit. -/
def andI (k : IntKind) (a b : Int) : Int := k.wrap (BitVec.ofInt k.bits a &&& BitVec.ofInt k.bits b).toNat
def orI (k : IntKind) (a b : Int) : Int := k.wrap (BitVec.ofInt k.bits a ||| BitVec.ofInt k.bits b).toNat
def xorI (k : IntKind) (a b : Int) : Int := k.wrap (BitVec.ofInt k.bits a ^^^ BitVec.ofInt k.bits b).toNat
def andNotI (k : IntKind) (a b : Int) : Int := k.wrap (BitVec.ofInt k.bits a &&& ~~~ BitVec.ofInt k.bits b).toNat
def notI (k : IntKind) (n : Int) : Int := k.wrap (BitVec.ofInt k.bits (if k.signed then -1 else k.max) ^^^ BitVec.ofInt k.bits n).toNat

@[simp] theorem untip_bool {b : Bool} : (AV.bool b).untip = AV.bool b := rfl
@[simp] theorem untip_int {k : IntKind} {n : Int} : (AV.int k n).untip = AV.int k n := rfl
@[simp] theorem untip_str {s : List UInt8} : (AV.str s).untip = AV.str s := rfl
@[simp] theorem untip_nilp  : (AV.nilp).untip = AV.nilp := rfl
@[simp] theorem untip_nilf  : (AV.nilf).untip = AV.nilf := rfl
@[simp] theorem untip_nili  : (AV.nili).untip = AV.nili := rfl
@[simp] theorem untip_nils  : (AV.nils).untip = AV.nils := rfl
@[simp] theorem untip_agg {cs : List AV} : (AV.agg cs).untip = AV.agg cs := rfl
@[simp] theorem untip_tup {vs : List AV} : (AV.tup vs).untip = AV.tup vs := rfl
@[simp] theorem untip_sl {e : Nat} {vs : List AV} : (AV.sl e vs).untip = AV.sl e vs := rfl
@[simp] theorem untip_gsl {e : Nat} {vs : List AV} : (AV.gsl e vs).untip = AV.sl e vs := rfl
@[simp] theorem untip_osl {b o l c : Nat} : (AV.osl b o l c).untip = AV.osl b o l c := rfl
@[simp] theorem untip_ref {b o : Nat} : (AV.ref b o).untip = AV.ref b o := rfl
@[simp] theorem untip_eref {cs : List AV} {o : Nat} : (AV.eref cs o).untip = AV.eref cs o := rfl
@[simp] theorem untip_fn {g : Nat} {a b : List AV} : (AV.fn g a b).untip = AV.fn g a b := rfl
@[simp] theorem untip_iface {t : Nat} {v : AV} : (AV.iface t v).untip = AV.iface t v := rfl
@[simp] theorem untip_gptr {g o : Nat} : (AV.gptr g o).untip = AV.gptr g o := rfl
@[simp] theorem untip_any  : (AV.any).untip = AV.any := rfl
@[simp] theorem untip_hole {n : Nat} : (AV.hole n).untip = AV.hole n := rfl
@[simp] theorem untip_z {e : Nat} : (AV.z e).untip = AV.z e := rfl
@[simp] theorem cells_bool {b : Bool} : (AV.bool b).cells = [AV.bool b] := rfl
@[simp] theorem cells_int {k : IntKind} {n : Int} : (AV.int k n).cells = [AV.int k n] := rfl
@[simp] theorem cells_str {s : List UInt8} : (AV.str s).cells = [AV.str s] := rfl
@[simp] theorem cells_nilp  : (AV.nilp).cells = [AV.nilp] := rfl
@[simp] theorem cells_nilf  : (AV.nilf).cells = [AV.nilf] := rfl
@[simp] theorem cells_nili  : (AV.nili).cells = [AV.nili] := rfl
@[simp] theorem cells_nils  : (AV.nils).cells = [AV.nils] := rfl
@[simp] theorem cells_agg {cs : List AV} : (AV.agg cs).cells = cs := rfl
@[simp] theorem cells_tup {vs : List AV} : (AV.tup vs).cells = [AV.tup vs] := rfl
@[simp] theorem cells_sl {e : Nat} {vs : List AV} : (AV.sl e vs).cells = [AV.sl e vs] := rfl
@[simp] theorem cells_gsl {e : Nat} {vs : List AV} : (AV.gsl e vs).cells = [AV.gsl e vs] := rfl
@[simp] theorem cells_osl {b o l c : Nat} : (AV.osl b o l c).cells = [AV.osl b o l c] := rfl
@[simp] theorem cells_ref {b o : Nat} : (AV.ref b o).cells = [AV.ref b o] := rfl
@[simp] theorem cells_eref {cs : List AV} {o : Nat} : (AV.eref cs o).cells = [AV.eref cs o] := rfl
@[simp] theorem cells_fn {g : Nat} {a b : List AV} : (AV.fn g a b).cells = [AV.fn g a b] := rfl
@[simp] theorem cells_iface {t : Nat} {v : AV} : (AV.iface t v).cells = [AV.iface t v] := rfl
@[simp] theorem cells_gptr {g o : Nat} : (AV.gptr g o).cells = [AV.gptr g o] := rfl
@[simp] theorem cells_any  : (AV.any).cells = [AV.any] := rfl
@[simp] theorem cells_hole {n : Nat} : (AV.hole n).cells = [AV.hole n] := rfl
@[simp] theorem cells_z {e : Nat} : (AV.z e).cells = [AV.z e] := rfl
@[simp] theorem cellsOf_bool {b : Bool} : (AV.bool b).cellsOf = some [AV.bool b] := rfl
@[simp] theorem cellsOf_int {k : IntKind} {n : Int} : (AV.int k n).cellsOf = some [AV.int k n] := rfl
@[simp] theorem cellsOf_str {s : List UInt8} : (AV.str s).cellsOf = some [AV.str s] := rfl
@[simp] theorem cellsOf_nilp  : (AV.nilp).cellsOf = some [AV.nilp] := rfl
@[simp] theorem cellsOf_nilf  : (AV.nilf).cellsOf = some [AV.nilf] := rfl
@[simp] theorem cellsOf_nili  : (AV.nili).cellsOf = some [AV.nili] := rfl
@[simp] theorem cellsOf_nils  : (AV.nils).cellsOf = some [AV.nils] := rfl
@[simp] theorem cellsOf_sl {e : Nat} {vs : List AV} : (AV.sl e vs).cellsOf = some [AV.sl e vs] := rfl
@[simp] theorem cellsOf_gsl {e : Nat} {vs : List AV} : (AV.gsl e vs).cellsOf = some [AV.gsl e vs] := rfl
@[simp] theorem cellsOf_osl {b o l c : Nat} : (AV.osl b o l c).cellsOf = some [AV.osl b o l c] := rfl
@[simp] theorem cellsOf_ref {b o : Nat} : (AV.ref b o).cellsOf = some [AV.ref b o] := rfl
@[simp] theorem cellsOf_eref {cs : List AV} {o : Nat} : (AV.eref cs o).cellsOf = some [AV.eref cs o] := rfl
@[simp] theorem cellsOf_fn {g : Nat} {a b : List AV} : (AV.fn g a b).cellsOf = some [AV.fn g a b] := rfl
@[simp] theorem cellsOf_iface {t : Nat} {v : AV} : (AV.iface t v).cellsOf = some [AV.iface t v] := rfl
@[simp] theorem cellsOf_gptr {g o : Nat} : (AV.gptr g o).cellsOf = some [AV.gptr g o] := rfl
@[simp] theorem cellsOf_z {e : Nat} : (AV.z e).cellsOf = some [AV.z e] := rfl
@[simp] theorem cellsOf_agg {cs : List AV} : (AV.agg cs).cellsOf = some cs := rfl
@[simp] theorem one_bool {b : Bool} : (AV.bool b).one = true := rfl
@[simp] theorem one_int {k : IntKind} {n : Int} : (AV.int k n).one = true := rfl
@[simp] theorem one_str {s : List UInt8} : (AV.str s).one = true := rfl
@[simp] theorem one_nilp  : (AV.nilp).one = true := rfl
@[simp] theorem one_nilf  : (AV.nilf).one = true := rfl
@[simp] theorem one_nili  : (AV.nili).one = true := rfl
@[simp] theorem one_nils  : (AV.nils).one = true := rfl
@[simp] theorem one_sl {e : Nat} {vs : List AV} : (AV.sl e vs).one = true := rfl
@[simp] theorem one_gsl {e : Nat} {vs : List AV} : (AV.gsl e vs).one = true := rfl
@[simp] theorem one_osl {b o l c : Nat} : (AV.osl b o l c).one = true := rfl
@[simp] theorem one_ref {b o : Nat} : (AV.ref b o).one = true := rfl
@[simp] theorem one_eref {cs : List AV} {o : Nat} : (AV.eref cs o).one = true := rfl
@[simp] theorem one_fn {g : Nat} {a b : List AV} : (AV.fn g a b).one = true := rfl
@[simp] theorem one_iface {t : Nat} {v : AV} : (AV.iface t v).one = true := rfl
@[simp] theorem one_gptr {g o : Nat} : (AV.gptr g o).one = true := rfl
@[simp] theorem one_z {e : Nat} : (AV.z e).one = true := rfl
@[simp] theorem av_tf {b : Bool} : KV.av (.tf b) = .bool b := rfl
@[simp] theorem av_i {k : IntKind} {n : Int} : KV.av (.i k n) = .int k n := rfl
@[simp] theorem av_s {l : List UInt8} : KV.av (.s l) = .str l := rfl
@[simp] theorem av_nilp  : KV.av (.nilp) = .nilp := rfl
@[simp] theorem av_nilf  : KV.av (.nilf) = .nilf := rfl
@[simp] theorem av_nili  : KV.av (.nili) = .nili := rfl
@[simp] theorem av_nils  : KV.av (.nils) = .nils := rfl
@[simp] theorem get_s {sl : List AV} {n : Nat} : POpd.get sl (.s n) = sl.getD n .any := rfl
@[simp] theorem get_ofNat {sl : List AV} {n : Nat} : POpd.get sl (OfNat.ofNat n) = sl.getD n .any := rfl
@[simp] theorem get_k {sl : List AV} {v : KV} : POpd.get sl (.k v) = v.av := rfl
@[simp] theorem get_f {sl : List AV} {g : Nat} : POpd.get sl (.f g) = .fn g [] [] := rfl
@[simp] theorem get_gv {sl : List AV} {g : Nat} : POpd.get sl (.gv g) = .gptr g 0 := rfl
@[simp] theorem bin_add {k : IntKind} {a b : Int} : evBin .add (.int k a) (.int k b) = some (.int k (k.wrap (a + b))) := by simp [evBin, evInt]
@[simp] theorem bin_sub {k : IntKind} {a b : Int} : evBin .sub (.int k a) (.int k b) = some (.int k (k.wrap (a - b))) := by simp [evBin, evInt]
@[simp] theorem bin_mul {k : IntKind} {a b : Int} : evBin .mul (.int k a) (.int k b) = some (.int k (k.wrap (a * b))) := by simp [evBin, evInt]
@[simp] theorem bin_and {k : IntKind} {a b : Int} : evBin .and (.int k a) (.int k b) = some (.int k (andI k a b)) := by simp [evBin, evInt, andI]
@[simp] theorem bin_or {k : IntKind} {a b : Int} : evBin .or (.int k a) (.int k b) = some (.int k (orI k a b)) := by simp [evBin, evInt, orI]
@[simp] theorem bin_xor {k : IntKind} {a b : Int} : evBin .xor (.int k a) (.int k b) = some (.int k (xorI k a b)) := by simp [evBin, evInt, xorI]
@[simp] theorem bin_andNot {k : IntKind} {a b : Int} : evBin .andNot (.int k a) (.int k b) = some (.int k (andNotI k a b)) := by simp [evBin, evInt, andNotI]
@[simp] theorem bin_eql {k : IntKind} {a b : Int} : evBin .eql (.int k a) (.int k b) = some (.bool (a == b)) := by simp [evBin, evInt]
@[simp] theorem bin_neq {k : IntKind} {a b : Int} : evBin .neq (.int k a) (.int k b) = some (.bool (a != b)) := by simp [evBin, evInt]
@[simp] theorem bin_lss {k : IntKind} {a b : Int} : evBin .lss (.int k a) (.int k b) = some (.bool (a < b)) := by simp [evBin, evInt]
@[simp] theorem bin_leq {k : IntKind} {a b : Int} : evBin .leq (.int k a) (.int k b) = some (.bool (a ≤ b)) := by simp [evBin, evInt]
@[simp] theorem bin_gtr {k : IntKind} {a b : Int} : evBin .gtr (.int k a) (.int k b) = some (.bool (a > b)) := by simp [evBin, evInt]
@[simp] theorem bin_geq {k : IntKind} {a b : Int} : evBin .geq (.int k a) (.int k b) = some (.bool (a ≥ b)) := by simp [evBin, evInt]
@[simp] theorem bin_quo {k : IntKind} {a b : Int} : evBin .quo (.int k a) (.int k b) = if b ≠ 0 then some (.int k (k.wrap (a.tdiv b))) else none := by by_cases h : b = 0 <;> simp [evBin, evInt, h]
@[simp] theorem bin_rem {k : IntKind} {a b : Int} : evBin .rem (.int k a) (.int k b) = if b ≠ 0 then some (.int k (a.tmod b)) else none := by by_cases h : b = 0 <;> simp [evBin, evInt, h]
@[simp] theorem bin_shl {k k2 : IntKind} {a b : Int} : evBin .shl (.int k a) (.int k2 b) = if 0 ≤ b then some (.int k (k.wrap (a * 2 ^ (Min.min b.toNat k.bits)))) else none := by by_cases h : b < 0 <;> simp [evBin, h] <;> omega
@[simp] theorem bin_shr {k k2 : IntKind} {a b : Int} : evBin .shr (.int k a) (.int k2 b) = if 0 ≤ b then some (.int k (a.fdiv (2 ^ (Min.min b.toNat k.bits)))) else none := by by_cases h : b < 0 <;> simp [evBin, h] <;> omega
@[simp] theorem bins_eql {a b : List UInt8} : evBin .eql (.str a) (.str b) = some (.bool (a == b)) := rfl
@[simp] theorem bins_neq {a b : List UInt8} : evBin .neq (.str a) (.str b) = some (.bool (!(a == b))) := rfl
@[simp] theorem bins_lss {a b : List UInt8} : evBin .lss (.str a) (.str b) = some (.bool (Op.bytesLess a b)) := rfl
@[simp] theorem bins_leq {a b : List UInt8} : evBin .leq (.str a) (.str b) = some (.bool (Op.bytesLess a b || a == b)) := rfl
@[simp] theorem bins_gtr {a b : List UInt8} : evBin .gtr (.str a) (.str b) = some (.bool (!(Op.bytesLess a b || a == b))) := rfl
@[simp] theorem bins_geq {a b : List UInt8} : evBin .geq (.str a) (.str b) = some (.bool (!Op.bytesLess a b)) := rfl
@[simp] theorem bins_add {a b : List UInt8} : evBin .add (.str a) (.str b) = if a.length + b.length ≤ 4611686018427387904 then some (.str (a ++ b)) else none := rfl
@[simp] theorem un_neg {k : IntKind} {n : Int} : evUn .neg (.int k n) = some (.int k (k.wrap (0 - n))) := rfl
@[simp] theorem un_not {b : Bool} : evUn .not (.bool b) = some (.bool !b) := rfl
@[simp] theorem un_xor {k : IntKind} {n : Int} : evUn .xor (.int k n) = some (.int k (notI k n)) := rfl
@[simp] theorem conv_int {h : Store} {k k2 : IntKind} {n : Int} : evConv h (.int k) (.int k2 n) = some (.int k (k.wrap n)) := rfl
@[simp] theorem conv_same {h : Store} {s : List UInt8} : evConv h .same (.str s) = some (.str s) := rfl
@[simp] theorem conv_bytesStr {h : Store} {x : AV} : evConv h .bytesStr x = if eszIs h 1 x then ((elems h x).bind bytesOf).map .str else none := by cases x <;> rfl
@[simp] theorem conv_strBytes {h : Store} {s : List UInt8} : evConv h .strBytes (.str s) = if s.length ≤ LIM then some (.gsl 1 (s.map fun (b : UInt8) => AV.int .u8 b.toNat)) else none := rfl
@[simp] theorem eq_bool0 {a b : Bool} : evEq .bool (.bool a) (.bool b) = some (a == b) := rfl
@[simp] theorem eq_ptr1  : evEq .ptr (.nilp) (.nilp) = some (true) := rfl
@[simp] theorem eq_ptr2 {b o : Nat} : evEq .ptr (.nilp) (.ref b o) = some (false) := rfl
@[simp] theorem eq_ptr3 {b o : Nat} : evEq .ptr (.ref b o) (.nilp) = some (false) := rfl
@[simp] theorem eq_slice4  : evEq .slice (.nils) (.nils) = some (true) := rfl
@[simp] theorem eq_slice5 {e : Nat} {vs : List AV} : evEq .slice (.sl e vs) (.nils) = some (false) := rfl
@[simp] theorem eq_slice6 {e : Nat} {vs : List AV} : evEq .slice (.gsl e vs) (.nils) = some (false) := rfl
@[simp] theorem eq_slice7 {b o l c : Nat} : evEq .slice (.osl b o l c) (.nils) = some (false) := rfl
@[simp] theorem eq_func8  : evEq .func (.nilf) (.nilf) = some (true) := rfl
@[simp] theorem eq_func9 {g : Nat} {a b : List AV} : evEq .func (.fn g a b) (.nilf) = some (false) := rfl
@[simp] theorem eq_iface10  : evEq .iface (.nili) (.nili) = some (true) := rfl
@[simp] theorem eq_iface11 {t : Nat} {v : AV} : evEq .iface (.iface t v) (.nili) = some (false) := rfl
@[simp] theorem eq_plain {ks : List CK} {xs ys : List AV} : evEq (.plain ks) (.agg xs) (.agg ys) = eqCells ks xs ys := rfl
@[simp] theorem eqc_nil : eqCells [] [] [] = some true := rfl
@[simp] theorem eqc_cons {k : CK} {ks : List CK} {x y : AV} {xs ys : List AV} : eqCells (k :: ks) (x :: xs) (y :: ys) = (scalarEq k x y).bind fun b => (eqCells ks xs ys).map fun c => b && c := rfl
@[simp] theorem sc_b {a b : Bool} : scalarEq .tb (.bool a) (.bool b) = some (a == b) := rfl
@[simp] theorem sc_i {k : IntKind} {a b : Int} : scalarEq .ti (.int k a) (.int k b) = some (a == b) := by simp [scalarEq]
@[simp] theorem sc_s {a b : List UInt8} : scalarEq .ts (.str a) (.str b) = some (a == b) := rfl
@[simp] theorem lenV_e0  : lenV .nils = some 0 := rfl
@[simp] theorem lenV_e1 {e : Nat} {vs : List AV} : lenV (.sl e vs) = some vs.length := rfl
@[simp] theorem lenV_e2 {e : Nat} {vs : List AV} : lenV (.gsl e vs) = some vs.length := rfl
@[simp] theorem lenV_e3 {b o l c : Nat} : lenV (.osl b o l c) = some l := rfl
@[simp] theorem strV_e0 {s : List UInt8} : strV (.str s) = some s := rfl
@[simp] theorem boolV_e0 {s : Bool} : boolV (.bool s) = some s := rfl
@[simp] theorem aggV_e0 {s : List AV} : aggV (.agg s) = some s := rfl
@[simp] theorem tupV_e0 {s : List AV} : tupV (.tup s) = some s := rfl
@[simp] theorem holeV_e0 {n : Nat} : holeV (.hole n) = some n := rfl
@[simp] theorem mkHoles_nil {st : St} : mkHoles [] st = st := rfl
@[simp] theorem mkHoles_cons {d : Nat} {ds : List Nat} {sl : List AV} {h : Store} : mkHoles (d :: ds) (sl, h) = mkHoles ds (sl.set d (.hole h.length), h ++ [⟨[], 0, true, false⟩]) := (rfl)
@[simp] theorem refV_e0 {b o : Nat} : refV (.ref b o) = some (b, o) := rfl
@[simp] theorem fnV_e0 {g : Nat} {a b : List AV} : fnV (.fn g a b) = some (g, a, b) := rfl
@[simp] theorem faV_e0 {n b o : Nat} : faV n (.ref b o) = some (.ref b (o + n)) := rfl
@[simp] theorem faV_e1 {n o : Nat} {cs : List AV} : faV n (.eref cs o) = some (.eref cs (o + n)) := rfl
@[simp] theorem faV_e2 {n g o : Nat} : faV n (.gptr g o) = some (.gptr g (o + n)) := rfl
@[simp] theorem islV_e0 {h : Store} {e e2 j : Nat} {vs : List AV} : islV h e (.sl e2 vs) j = if e2 = e then (vs[j]?).map fun v => .eref v.cells 0 else none := rfl
@[simp] theorem islV_e1 {h : Store} {e e2 j : Nat} {vs : List AV} : islV h e (.gsl e2 vs) j = if e2 = e then (vs[j]?).map fun v => .eref v.cells 0 else none := rfl
@[simp] theorem islV_e2 {h : Store} {esz b off len c j : Nat} : islV h esz (.osl b off len c) j = (getB h b).bind fun blk => if blk.esz = esz ∧ j < len then some (.ref b (off + j * esz)) else none := rfl
@[simp] theorem loadV_e0 {C : Env} {h : Store} {ag : Bool} {sz b off : Nat} : loadV C h ag sz (.ref b off) = (getB h b).bind fun blk => (partOf ag sz off (.agg blk.cells)).map (unt ag) := rfl
@[simp] theorem loadV_e1 {C : Env} {h : Store} {ag : Bool} {sz off : Nat} {cs : List AV} : loadV C h ag sz (.eref cs off) = partOf ag sz off (.agg cs) := rfl
@[simp] theorem loadV_e2 {C : Env} {h : Store} {ag : Bool} {sz g off : Nat} : loadV C h ag sz (.gptr g off) = (C.g g).bind fun cs => partOf ag sz off (.agg cs) := rfl
@[simp] theorem slslV_e0 {h : Store} {esz : Nat} {sl : List AV} {lo hi mx : Option POpd} : slslV h esz sl lo hi mx .nils = (bounds sl 0 0 lo hi mx).map fun _ => .nils := rfl
@[simp] theorem slslV_e1 {h : Store} {esz : Nat} {sl : List AV} {lo hi mx : Option POpd} {e : Nat} {vs : List AV} : slslV h esz sl lo hi mx (.sl e vs) = if e = esz then (bounds sl vs.length vs.length lo hi mx).map fun x => (if mx.isSome ∧ x.2.1 = x.2.2 then .gsl e ((vs.take x.2.1).drop x.1) else .sl e ((vs.take x.2.1).drop x.1)) else none := rfl
@[simp] theorem slslV_e2 {h : Store} {esz : Nat} {sl : List AV} {lo hi mx : Option POpd} {e : Nat} {vs : List AV} : slslV h esz sl lo hi mx (.gsl e vs) = if e = esz then (bounds sl vs.length vs.length lo hi mx).map fun x => (if mx.isSome ∧ x.2.1 = x.2.2 then .gsl e ((vs.take x.2.1).drop x.1) else .sl e ((vs.take x.2.1).drop x.1)) else none := rfl
@[simp] theorem slslV_e3 {h : Store} {esz : Nat} {sl : List AV} {lo hi mx : Option POpd} {b off len cap : Nat} : slslV h esz sl lo hi mx (.osl b off len cap) = (getB h b).bind fun blk => if blk.esz = esz then (bounds sl len cap lo hi mx).map fun x => .osl b (off + x.1 * esz) (x.2.1 - x.1) (x.2.2 - x.1) else none := rfl
@[simp] theorem appV_e0 {e : Nat} {ws : List AV} : appV e ws .nils = if ws.length ≤ LIM then some (if ws = [] then .nils else .gsl e ws) else none := rfl
@[simp] theorem appV_e1 {e e2 : Nat} {ws vs : List AV} : appV e ws (.gsl e2 vs) = if e2 = e ∧ vs.length + ws.length ≤ LIM then some (.gsl e (vs ++ ws)) else none := rfl
@[simp] theorem slzV_e0 {h : Store} {e : Nat} : slzV h e .nils = some .nils := rfl
@[simp] theorem slzV_e1 {h : Store} {e e2 : Nat} {vs : List AV} : slzV h e (.sl e2 vs) = if e2 = e then some (.z e) else none := rfl
@[simp] theorem slzV_e2 {h : Store} {e e2 : Nat} {vs : List AV} : slzV h e (.gsl e2 vs) = if e2 = e then some (.z e) else none := rfl
@[simp] theorem slzV_e3 {h : Store} {e b o l c : Nat} : slzV h e (.osl b o l c) = (getB h b).bind fun blk => if blk.esz = e then some (.z e) else none := rfl
@[simp] theorem unt_e0 {v : AV} : unt true v = .agg (v.cells.map AV.untip) := rfl
@[simp] theorem unt_e1 {v : AV} : unt false v = v.untip := rfl
@[simp] theorem fz_e0 {h : Store} {sl : List AV} : fz h sl [] = some [] := rfl
@[simp] theorem fz_e1 {h : Store} {sl : List AV} {x : POpd} {xs : List POpd} : fz h sl (x :: xs) = (freeze h (x.get sl)).bind fun v => (fz h sl xs).map fun vs => v :: vs := rfl
@[simp] theorem rz_e0 {h : Store} {sl : List AV} : rz h sl [] = [] := rfl
@[simp] theorem rz_e1 {h : Store} {sl : List AV} {x : POpd} {xs : List POpd} : rz h sl (x :: xs) = reachN h 8 (x.get sl) ++ rz h sl xs := rfl
@[simp] theorem fill_e0 {sl cs : List AV} : fillParts sl [] cs = some cs := rfl
@[simp] theorem fill_cons {sl cs : List AV} {off sz : Nat} {x : POpd} {r : List (Nat × Nat × POpd)} : fillParts sl ((off, sz, x) :: r) cs = ((x.get sl).cellsOf).bind fun v => if v.length = sz ∧ off + sz ≤ cs.length then fillParts sl r (splice cs off (v.map AV.untip)) else none := by simp only [fillParts]; cases (x.get sl).cellsOf <;> simp
@[simp] theorem chunks_e0 {ag : Bool} {e : Nat} {cs : List AV} : chunks ag e 0 cs = [] := rfl
@[simp] theorem chunks_e1 {ag : Bool} {e n : Nat} {cs : List AV} : chunks ag e (n + 1) cs = (if ag then .agg (cs.take e) else cs.headD .any) :: chunks ag e n (cs.drop e) := rfl
@[simp] theorem pres_slot {st : St} {n : Nat} : PRes.get st (.slot n) = some (st.1.getD n .any) := rfl
@[simp] theorem pres_cell {st : St} {n sz : Nat} {ag : Bool} : PRes.get st (.cell n ag sz) = (refV (st.1.getD n .any)).bind fun p => (getB st.2 p.1).bind fun blk => (partOf ag sz p.2 (.agg blk.cells)).map (unt ag) := by
  simp only [PRes.get]; cases st.1.getD n .any <;> simp [refV]
  rename_i b off; cases getB st.2 b
  · rfl
  · rfl
@[simp] theorem one_e0 {v : AV} : one? [v] = v := rfl
@[simp] theorem one_two {a b : AV} {vs : List AV} : one? (a :: b :: vs) = .tup (a :: b :: vs) := rfl
@[simp] theorem one_nil : one? [] = .tup [] := rfl
@[simp] theorem evMax_int {k : IntKind} {x y : Int} : evMax (.int k x) (.int k y) = some (.int k (if y > x then y else x)) := rfl
@[simp] theorem evMin_int {k : IntKind} {x y : Int} : evMin (.int k x) (.int k y) = some (.int k (if y < x then y else x)) := rfl
@[simp] theorem eszIs_e0 {h : Store} {e : Nat} : eszIs h e .nils = true := rfl
@[simp] theorem eszIs_e1 {h : Store} {e e2 : Nat} {vs : List AV} : eszIs h e (.sl e2 vs) = (e2 == e) := rfl
@[simp] theorem eszIs_e2 {h : Store} {e e2 : Nat} {vs : List AV} : eszIs h e (.gsl e2 vs) = (e2 == e) := rfl
@[simp] theorem eszIs_osl {h : Store} {e b o l c : Nat} : eszIs h e (.osl b o l c) = match getB h b with | some blk => blk.esz == e | none => false := rfl
@[simp] theorem elems_e0 {h : Store} : elems h .nils = some [] := rfl
@[simp] theorem elems_e1 {h : Store} {e : Nat} {vs : List AV} : elems h (.sl e vs) = some vs := rfl
@[simp] theorem elems_e2 {h : Store} {e : Nat} {vs : List AV} : elems h (.gsl e vs) = some vs := rfl
@[simp] theorem elems_osl {h : Store} {b off len c : Nat} : elems h (.osl b off len c) = (getB h b).bind fun blk => if off + len * blk.esz ≤ blk.cells.length then some (chunks blk.ag blk.esz len (blk.cells.drop off)) else none := by simp only [elems]; cases getB h b <;> rfl
@[simp] theorem news_nils {h : Store} {esz : Nat}  : news h esz (AV.nils) = if eszIs h esz (AV.nils) then elems h (AV.nils) else none := rfl
@[simp] theorem news_sl {h : Store} {esz : Nat} {e : Nat} {vs : List AV} : news h esz (AV.sl e vs) = if eszIs h esz (AV.sl e vs) then elems h (AV.sl e vs) else none := rfl
@[simp] theorem news_gsl {h : Store} {esz : Nat} {e : Nat} {vs : List AV} : news h esz (AV.gsl e vs) = if eszIs h esz (AV.gsl e vs) then elems h (AV.gsl e vs) else none := rfl
@[simp] theorem news_osl {h : Store} {esz : Nat} {b o l c : Nat} : news h esz (AV.osl b o l c) = if eszIs h esz (AV.osl b o l c) then elems h (AV.osl b o l c) else none := rfl
@[simp] theorem news_str {h : Store} {esz : Nat} {t : List UInt8} : news h esz (.str t) = if esz = 1 then some (t.map fun (b : UInt8) => AV.int .u8 b.toNat) else none := rfl

variable {C : Env} {b0 : Nat} {sl : List AV} {h : Store}

@[simp] theorem getD_mkL' {n k : Nat} {d : AV} {m : List (Nat × AV)} (h : k < n) : (mkL n d m).getD k .any = lk d m k := getD_mkL h
@[simp] theorem getD_mkL2 {n k : Nat} {d : AV} {m : List (Nat × AV)} (h : k < n) : (mkL n d m)[k]?.getD .any = lk d m k := by
  rw [← List.getD_eq_getElem?_getD]; exact getD_mkL h
@[simp] theorem lk_cons {d v : AV} {m : List (Nat × AV)} {k n : Nat} : lk d ((k, v) :: m) n = if k = n then v else lk d m n := (rfl)
@[simp] theorem pk_nil {d : AV} {m : List (Nat × AV)} : pk d m [] = [] := (rfl)
@[simp] theorem pk_cons {d : AV} {m : List (Nat × AV)} {k : Nat} {ks : List Nat} : pk d m (k :: ks) = (k, lk d m k) :: pk d m ks := (rfl)
@[simp] theorem lk_end {d : AV} {n : Nat} : lk d [] n = d := (rfl)

attribute [simp] List.getElem?_cons_zero List.getElem?_cons_succ

/-! ### Memory -/

@[simp] theorem getB_nil {b : Nat} : getB [] b = none := rfl
@[simp] theorem getB_zero {blk : Blk} {h : Store} : getB (blk :: h) 0 = if blk.esz = 0 then none else some blk := rfl
@[simp] theorem getB_succ {blk : Blk} {h : Store} {b : Nat} : getB (blk :: h) (b + 1) = getB h b := rfl
@[simp] theorem getB_one {blk : Blk} {h : Store} : getB (blk :: h) 1 = getB h 0 := rfl
@[simp] theorem getB_two {blk : Blk} {h : Store} : getB (blk :: h) 2 = getB h 1 := rfl

theorem getB_app_lt {h l : Store} {b : Nat} (hb : b < h.length) : getB (h ++ l) b = getB h b := by
  simp only [getB, List.getElem?_append_left hb]
theorem getB_app_some {h l : Store} {b : Nat} {B : Blk} (hb : getB h b = some B) : getB (h ++ l) b = some B := by
  rw [getB_app_lt]
  · exact hb
  · have := (getB_some hb).1
    rcases Nat.lt_or_ge b h.length with h' | h'
    · exact h'
    · rw [List.getElem?_eq_none h'] at this; cases this
theorem getB_app_ge {h l : Store} {b : Nat} (hb : h.length ≤ b) : getB (h ++ l) b = getB l (b - h.length) := by
  simp only [getB, List.getElem?_append_right hb]
@[simp] theorem getB_app_len {h l : Store} : getB (h ++ l) h.length = getB l 0 := by rw [getB_app_ge (Nat.le_refl _), Nat.sub_self]
@[simp] theorem getB_app_add {h l : Store} {k : Nat} : getB (h ++ l) (h.length + k) = getB l k := by rw [getB_app_ge (by omega), Nat.add_sub_cancel_left]
@[simp] theorem get_app_len {h l : Store} : (h ++ l)[h.length]? = l[0]? := by rw [List.getElem?_append_right (Nat.le_refl _), Nat.sub_self]
@[simp] theorem get_app_add {h l : Store} {k : Nat} : (h ++ l)[h.length + k]? = l[k]? := by rw [List.getElem?_append_right (by omega), Nat.add_sub_cancel_left]
@[simp] theorem set_app_len {h l : Store} {v : Blk} : (h ++ l).set h.length v = h ++ l.set 0 v := by
  rw [List.set_append_right _ _ (Nat.le_refl _), Nat.sub_self]
@[simp] theorem set_app_add {h l : Store} {k : Nat} {v : Blk} : (h ++ l).set (h.length + k) v = h ++ l.set k v := by
  rw [List.set_append_right _ _ (by omega), Nat.add_sub_cancel_left]
theorem set_app_lt {h l : Store} {b : Nat} {v : Blk} (hb : b < h.length) : (h ++ l).set b v = h.set b v ++ l := by
  rw [List.set_append_left _ _ hb]
theorem getB_set_eq {h : Store} {b : Nat} {v : Blk} (hb : b < h.length) : getB (h.set b v) b = if v.esz = 0 then none else some v := by
  simp only [getB, List.getElem?_set_self hb]
theorem getB_set_ne {h : Store} {b c : Nat} {v : Blk} (hb : b ≠ c) : getB (h.set b v) c = getB h c := by
  simp only [getB, List.getElem?_set_ne hb]
@[simp] theorem splice_one1 {cs : List AV} {j : Nat} {v : AV} (hj : j < cs.length) : splice cs j [v] = cs.set j v := by
  unfold splice
  rw [List.set_eq_take_append_cons_drop, if_pos hj]
  simp

@[simp] theorem splice_cons {c : AV} {cs vs : List AV} {off : Nat} : splice (c :: cs) off vs = (c :: cs).take off ++ vs ++ (c :: cs).drop (off + vs.length) := rfl
@[simp] theorem partOf_one {off : Nat} {cs : List AV} {sz : Nat} : partOf false sz off (.agg cs) = cs[off]? := rfl
@[simp] theorem partOf_cons {off sz : Nat} {c : AV} {cs : List AV} : partOf true sz off (.agg (c :: cs)) = if off = 0 ∧ (c :: cs).length = sz then some (.agg (c :: cs)) else if off + sz ≤ (c :: cs).length then some (.agg (((c :: cs).drop off).take sz)) else none := rfl

@[simp] theorem sealAll_nil {h : Store} : sealAll h [] = h := rfl

/-! ### Numbers -/

@[simp] theorem asIdx_nat (k : IntKind) (n : Nat) : asIdx (.int k (n : Int)) = some n := by simp [asIdx]
@[simp] theorem asIdx_lit (k : IntKind) (n : Nat) : asIdx (.int k (OfNat.ofNat n)) = some n := by
  simp only [asIdx]
  rw [if_pos]
  · rfl
  · exact Int.natCast_nonneg n
@[simp] theorem asIdx_zero (k : IntKind) : asIdx (.int k 0) = some 0 := by simp [asIdx]
@[simp] theorem asIdx_one (k : IntKind) : asIdx (.int k 1) = some 1 := by simp [asIdx]
@[simp] theorem asIdx_add (k : IntKind) (n m : Nat) : asIdx (.int k ((n : Int) + (m : Int))) = some (n + m) := by rw [← Int.natCast_add]; exact asIdx_nat k _
@[simp] theorem asIdx_addl (k : IntKind) (n m : Nat) : asIdx (.int k ((n : Int) + (OfNat.ofNat m))) = some (n + m) := asIdx_add k n m
@[simp] theorem asIdx_add1 (k : IntKind) (n : Nat) : asIdx (.int k ((n : Int) + 1)) = some (n + 1) := asIdx_add k n 1
@[simp] theorem toNat_add2 {a b : Int} (ha : 0 ≤ a) (hb : 0 ≤ b) : (a + b).toNat = a.toNat + b.toNat := Int.toNat_add ha hb
@[simp] theorem toNat_mul2 {a b : Int} (ha : 0 ≤ a) (hb : 0 ≤ b) : (a * b).toNat = a.toNat * b.toNat := Int.toNat_mul ha hb
@[simp 500] theorem asIdx_if {k : IntKind} {n : Int} : asIdx (.int k n) = if 0 ≤ n then some n.toNat else none := (rfl)
theorem asIdx_of {k : IntKind} {n : Int} {m : Nat} (h : n = m) : asIdx (.int k n) = some m := by subst h; exact asIdx_nat k m

@[simp] theorem wrap64 {n : Int} (h : -9223372036854775808 ≤ n) (h2 : n < 9223372036854775808) : IntKind.i64.wrap n = n := IntWalk.i64_in n ⟨h, by omega⟩
@[simp] theorem wrapu8 {n : Int} (h : 0 ≤ n) (h2 : n < 256) : IntKind.u8.wrap n = n := IntWalk.u8_in n ⟨h, by omega⟩
@[simp] theorem wrapu32 {n : Int} (h : 0 ≤ n) (h2 : n < 4294967296) : IntKind.u32.wrap n = n := IntWalk.u32_in n ⟨h, by omega⟩
@[simp] theorem wrapu64 {n : Int} (h : 0 ≤ n) (h2 : n < 18446744073709551616) : IntKind.u64.wrap n = n := IntWalk.u64_in n ⟨h, by omega⟩
theorem wrap_u32_mod (n : Int) : IntKind.u32.wrap n = n % 4294967296 := by rw [IntKind.wrap_u32]
theorem wrap_u8_mod (n : Int) : IntKind.u8.wrap n = n % 256 := by rw [IntKind.wrap_u8]

@[simp] theorem bits_u64 : IntKind.u64.bits = 64 := rfl
@[simp] theorem bits_u32 : IntKind.u32.bits = 32 := rfl
@[simp] theorem bits_u8 : IntKind.u8.bits = 8 := rfl
@[simp] theorem bits_i64 : IntKind.i64.bits = 64 := rfl
@[simp] theorem bits_i32 : IntKind.i32.bits = 32 := rfl
@[simp] theorem fdiv_pos {a b : Int} (h : 0 ≤ b) : a.fdiv b = a / b := Int.fdiv_eq_ediv_of_nonneg a h
@[simp] theorem wrapu8_mod (n : Int) : IntKind.u8.wrap n = n % 256 := by rw [IntKind.wrap_u8]
@[simp] theorem wrapu32_mod (n : Int) : IntKind.u32.wrap n = n % 4294967296 := by rw [IntKind.wrap_u32]
@[simp] theorem wrapu64_mod (n : Int) : IntKind.u64.wrap n = n % 18446744073709551616 := by rw [IntKind.wrap_u64]

theorem ofInt_toNat (w n : Nat) : (BitVec.ofInt w (n : Int)).toNat = n % 2 ^ w := by simp [BitVec.toNat_ofInt]
theorem nat_or_add {a b k : Nat} (ha : a % 2 ^ k = 0) (hb : b < 2 ^ k) : a ||| b = a + b := by
  obtain ⟨c, rfl⟩ : ∃ c, a = 2 ^ k * c := ⟨a / 2 ^ k, by rw [Nat.mul_div_cancel' (Nat.dvd_of_mod_eq_zero ha)]⟩
  rw [Nat.two_pow_add_eq_or_of_lt hb]
/-- Two parts of a word that do not meet. -/
theorem or_add {w a b : Nat} (k : Nat) (ha : a % 2 ^ k = 0) (hb : b < 2 ^ k) (h1 : a < 2 ^ w) (h2 : b < 2 ^ w) : (BitVec.ofInt w (a : Int) ||| BitVec.ofInt w (b : Int)).toNat = a + b := by
  rw [BitVec.toNat_or, ofInt_toNat, ofInt_toNat, Nat.mod_eq_of_lt h1, Nat.mod_eq_of_lt h2, nat_or_add ha hb]

@[simp] theorem tdiv_pos {a b : Int} (h : 0 ≤ a) : a.tdiv b = a / b := Int.tdiv_eq_ediv_of_nonneg h
@[simp] theorem tmod_pos {a b : Int} (h : 0 ≤ a) : a.tmod b = a % b := Int.tmod_eq_emod_of_nonneg h

theorem wrap_nat {k : IntKind} (hk : k.signed = false) {n : Nat} (h : n < 2 ^ k.bits) : k.wrap (n : Int) = n := by
  cases k <;> first
    | exact absurd hk (by decide)
    | (simp only [IntKind.bits] at h
       first
         | exact IntWalk.u8_in _ (by omega)
         | exact IntWalk.u16_in _ (by omega)
         | exact IntWalk.u32_in _ (by omega)
         | exact IntWalk.u64_in _ (by omega))
theorem orI_nat {k : IntKind} (hk : k.signed = false) {a b : Nat} (ha : a < 2 ^ k.bits) (hb : b < 2 ^ k.bits) : orI k (a : Int) b = ((a ||| b : Nat) : Int) := by
  simp only [orI, BitVec.toNat_or, ofInt_toNat, Nat.mod_eq_of_lt ha, Nat.mod_eq_of_lt hb]
  exact wrap_nat hk (Nat.or_lt_two_pow ha hb)
theorem andI_nat {k : IntKind} (hk : k.signed = false) {a b : Nat} (ha : a < 2 ^ k.bits) (hb : b < 2 ^ k.bits) : andI k (a : Int) b = ((a &&& b : Nat) : Int) := by
  simp only [andI, BitVec.toNat_and, ofInt_toNat, Nat.mod_eq_of_lt ha, Nat.mod_eq_of_lt hb]
  exact wrap_nat hk (Nat.and_lt_two_pow _ hb)
theorem xorI_nat {k : IntKind} (hk : k.signed = false) {a b : Nat} (ha : a < 2 ^ k.bits) (hb : b < 2 ^ k.bits) : xorI k (a : Int) b = ((a ^^^ b : Nat) : Int) := by
  simp only [xorI, BitVec.toNat_xor, ofInt_toNat, Nat.mod_eq_of_lt ha, Nat.mod_eq_of_lt hb]
  exact wrap_nat hk (Nat.xor_lt_two_pow ha hb)
theorem notI_nat {k : IntKind} (hk : k.signed = false) {a : Nat} (ha : a < 2 ^ k.bits) : notI k (a : Int) = ((2 ^ k.bits - 1 - a : Nat) : Int) := by
  have e : (BitVec.ofInt k.bits (if k.signed then -1 else k.max)) = BitVec.allOnes k.bits := by
    cases k <;> first | exact absurd hk (by decide) | rfl
  simp only [notI, e, BitVec.allOnes_xor, BitVec.toNat_not, ofInt_toNat, Nat.mod_eq_of_lt ha]
  exact wrap_nat hk (by omega)
theorem orI_add {k : IntKind} (hk : k.signed = false) {a b : Nat} (j : Nat) (hm : a % 2 ^ j = 0) (hj : b < 2 ^ j) (h1 : a < 2 ^ k.bits) (h2 : b < 2 ^ k.bits) : orI k (a : Int) b = ((a + b : Nat) : Int) := by
  rw [orI_nat hk h1 h2, nat_or_add hm hj]
/-- A word above another one. -/
theorem or_shl32 {a b : Int} (ha : 0 ≤ a) (ha2 : a < 4294967296) (hb : 0 ≤ b) (hb2 : b < 4294967296) : orI .u64 (a * 4294967296) b = a * 4294967296 + b := by
  obtain ⟨x, rfl⟩ : ∃ x : Nat, a = x := ⟨a.toNat, by omega⟩
  obtain ⟨y, rfl⟩ : ∃ y : Nat, b = y := ⟨b.toNat, by omega⟩
  have := orI_add (k := .u64) rfl (a := x * 4294967296) (b := y) 32 (by omega) (by omega) (by simp; omega) (by simp; omega)
  simpa using this

/-! ### Slices of data -/

section
variable {α : Type} {e : Nat} {f : α → AV} {o : Sl α}

@[simp] theorem lenV_slA : lenV (slA e f o) = some (lst o).length := by cases o <;> simp [slA]
@[simp] theorem lenV_gA : lenV (gA e f o) = some (lst o).length := by cases o <;> simp [gA]
@[simp] theorem untip_slA : (slA e f o).untip = slA e f o := by cases o <;> simp [slA]
@[simp] theorem untip_gA : (gA e f o).untip = slA e f o := by cases o <;> simp [slA, gA]
@[simp] theorem cells_slA : (slA e f o).cells = [slA e f o] := by cases o <;> simp [slA]
@[simp] theorem cellsOf_slA : (slA e f o).cellsOf = some [slA e f o] := by cases o <;> simp [slA]
@[simp] theorem one_gA : (gA e f o).one = true := by cases o <;> simp [gA]
@[simp] theorem lowerN_slA {n d : Nat} : AV.lowerN n (d + 1) (slA e f o) = true := by cases o <;> simp [slA, AV.lowerN]
@[simp] theorem lower_slA {n : Nat} : (slA e f o).lower n = true := by cases o <;> simp [slA, AV.lower, AV.lowerN]
@[simp] theorem lower_gA {n : Nat} : (gA e f o).lower n = true := by cases o <;> simp [gA, AV.lower, AV.lowerN]
@[simp] theorem closedN_slA {d : Nat} : AV.closedN (d + 1) (slA e f o) = true := by cases o <;> simp [slA, AV.closedN]
@[simp] theorem closed_slA : (slA e f o).closed = true := closedN_slA
@[simp] theorem freezeN_slA {d : Nat} : freezeN h (d + 1) (slA e f o) = some (slA e f o) := by cases o <;> simp [slA, freezeN]
@[simp] theorem freeze_slA : freeze h (slA e f o) = some (slA e f o) := freezeN_slA
@[simp] theorem freezeN_gA {d : Nat} : freezeN h (d + 1) (gA e f o) = some (slA e f o) := by cases o <;> simp [slA, gA, freezeN]
@[simp] theorem freeze_gA : freeze h (gA e f o) = some (slA e f o) := freezeN_gA
@[simp] theorem reachN_slA {d : Nat} : reachN h d (slA e f o) = [] := by cases o <;> cases d <;> simp [slA, reachN]
@[simp] theorem reachN_gA {d : Nat} : reachN h d (gA e f o) = [] := by cases o <;> cases d <;> simp [gA, reachN]
@[simp] theorem islV_nils {e j : Nat} : islV h e .nils j = none := rfl
@[simp] theorem islV_slA {j : Nat} : islV h e (slA e f o) j = ((lst o)[j]?).map fun x => .eref (f x).cells 0 := by
  cases o <;> simp [slA, Function.comp_def]
@[simp] theorem islV_gA {j : Nat} : islV h e (gA e f o) j = ((lst o)[j]?).map fun x => .eref (f x).cells 0 := by
  cases o <;> simp [gA, Function.comp_def]
@[simp] theorem elems_slA : elems h (slA e f o) = some ((lst o).map f) := by cases o <;> simp [slA]
@[simp] theorem elems_gA : elems h (gA e f o) = some ((lst o).map f) := by cases o <;> simp [gA]
@[simp] theorem eszIs_slA : eszIs h e (slA e f o) = true := by cases o <;> simp [slA]
@[simp] theorem eszIs_gA : eszIs h e (gA e f o) = true := by cases o <;> simp [gA]
@[simp] theorem news_slA : news h e (slA e f o) = some ((lst o).map f) := by cases o <;> simp [slA]
@[simp] theorem news_gA : news h e (gA e f o) = some ((lst o).map f) := by cases o <;> simp [gA]
@[simp] theorem aggV_slA : aggV (slA e f o) = none := by cases o <;> rfl
@[simp] theorem slzV_slA : slzV h e (slA e f o) = some (match o with | none => .nils | some _ => .z e) := by cases o <;> simp [slA]

/-- An append to a slice that is growing. -/
theorem appV_gA {l : List α} (hl : (lst o).length + l.length ≤ LIM) : appV e (l.map f) (gA e f o) = some (gA e f (appS o l)) := by
  cases o with
  | none =>
    simp only [lst_none, List.length_nil, Nat.zero_add] at hl
    by_cases el : l = [] <;> simp [gA, appS, el, hl]
  | some x => simp at hl; simp [gA, appS, hl]
theorem appV_nils {l : List α} (hl : l.length ≤ LIM) : appV e (l.map f) .nils = some (gA e f (appS none l)) := appV_gA (o := none) (by simpa using hl)
theorem appV_gA1 {x : α} (hl : (lst o).length + 1 ≤ LIM) : appV e [f x] (gA e f o) = some (gA e f (appS o [x])) := appV_gA (l := [x]) hl
theorem appV_nils1 {x : α} : appV e [f x] .nils = some (gA e f (some [x])) := appV_gA (o := none) (l := [x]) (by simp [LIM])

/-- A part of a slice. -/
def cutS {α : Type} (o : Sl α) (i j : Nat) : Sl α := o.map fun l => (l.take j).drop i
@[simp] theorem lst_cutS (o : Sl α) (i j : Nat) : lst (cutS o i j) = ((lst o).take j).drop i := by cases o <;> simp [cutS]
end

@[simp] theorem freeze_str {s : List UInt8} : freeze h (.str s) = some (.str s) := rfl
@[simp] theorem freeze_int {k : IntKind} {n : Int} : freeze h (.int k n) = some (.int k n) := rfl
@[simp] theorem freeze_bool {b : Bool} : freeze h (.bool b) = some (.bool b) := rfl
@[simp] theorem freeze_nils : freeze h .nils = some .nils := rfl
@[simp] theorem freeze_nilp : freeze h .nilp = some .nilp := rfl
@[simp] theorem freeze_sl {e : Nat} {vs : List AV} : freeze h (.sl e vs) = some (.sl e vs) := rfl
@[simp] theorem freeze_gsl {e : Nat} {vs : List AV} : freeze h (.gsl e vs) = some (.sl e vs) := rfl
@[simp] theorem freeze_fn {g : Nat} : freeze h (.fn g [] []) = some (.fn g [] []) := rfl
@[simp] theorem freezeN_str {s : List UInt8} {d : Nat} : freezeN h (d + 1) (.str s) = some (.str s) := rfl
@[simp] theorem freezeN_int {k : IntKind} {n : Int} {d : Nat} : freezeN h (d + 1) (.int k n) = some (.int k n) := rfl
@[simp] theorem freezeN_bool {b : Bool} {d : Nat} : freezeN h (d + 1) (.bool b) = some (.bool b) := rfl
@[simp] theorem freezeN_nils {d : Nat} : freezeN h (d + 1) .nils = some .nils := rfl
@[simp] theorem freezeN_sl {e : Nat} {vs : List AV} {d : Nat} : freezeN h (d + 1) (.sl e vs) = some (.sl e vs) := rfl
@[simp] theorem freezeN_gsl {e : Nat} {vs : List AV} {d : Nat} : freezeN h (d + 1) (.gsl e vs) = some (.sl e vs) := rfl
@[simp] theorem reachN_str {s : List UInt8} {d : Nat} : reachN h (d + 1) (.str s) = [] := rfl
@[simp] theorem reachN_int {k : IntKind} {n : Int} {d : Nat} : reachN h (d + 1) (.int k n) = [] := rfl
@[simp] theorem reachN_bool {b : Bool} {d : Nat} : reachN h (d + 1) (.bool b) = [] := rfl
@[simp] theorem reachN_nils {d : Nat} : reachN h (d + 1) .nils = [] := rfl
@[simp] theorem reachN_nilp {d : Nat} : reachN h (d + 1) .nilp = [] := rfl
@[simp] theorem reachN_sl {e : Nat} {vs : List AV} {d : Nat} : reachN h (d + 1) (.sl e vs) = [] := rfl
@[simp] theorem reachN_gsl {e : Nat} {vs : List AV} {d : Nat} : reachN h (d + 1) (.gsl e vs) = [] := rfl
@[simp] theorem reachN_fn {g : Nat} {d : Nat} : reachN h (d + 1) (.fn g [] []) = [] := by simp [reachN]

/-- Cells of data: no slice that grows, no address. -/
def Plain (cs : List AV) : Prop := ∀ c ∈ cs, (∀ d, freezeN h (d + 1) c = some c) ∧ (∀ d, reachN h (d + 1) c = []) ∧ c.untip = c ∧ (∀ d, AV.closedN (d + 1) c = true)

theorem mapM_id {f : AV → Option AV} : ∀ {cs : List AV}, (∀ c ∈ cs, f c = some c) → cs.mapM f = some cs
  | [], _ => rfl
  | c :: cs, hc => by
    rw [List.mapM_cons, hc c (by simp), mapM_id (fun c' h' => hc c' (by simp [h']))]
    rfl

@[simp] theorem flat_int {k : IntKind} {n : Int} : (AV.int k n).flat = true := rfl
@[simp] theorem flat_bool {b : Bool} : (AV.bool b).flat = true := rfl
@[simp] theorem flat_str {b : List UInt8} : (AV.str b).flat = true := rfl
@[simp] theorem closed_int {k : IntKind} {n : Int} : (AV.int k n).closed = true := rfl
@[simp] theorem closed_bool {b : Bool} : (AV.bool b).closed = true := rfl
@[simp] theorem closed_str {b : List UInt8} : (AV.str b).closed = true := rfl
@[simp] theorem lower_int {k : IntKind} {n : Int} {m : Nat} : (AV.int k n).lower m = true := rfl
@[simp] theorem lower_bool {b : Bool} {m : Nat} : (AV.bool b).lower m = true := rfl
@[simp] theorem lower_str {b : List UInt8} {m : Nat} : (AV.str b).lower m = true := rfl
@[simp] theorem closedN_int {k : IntKind} {n : Int} {d : Nat} : AV.closedN (d + 1) (AV.int k n) = true := rfl
@[simp] theorem closedN_bool {b : Bool} {d : Nat} : AV.closedN (d + 1) (AV.bool b) = true := rfl
@[simp] theorem closedN_str {b : List UInt8} {d : Nat} : AV.closedN (d + 1) (AV.str b) = true := rfl
@[simp] theorem freeze_tup {vs : List AV} : freeze h (.tup vs) = (vs.mapM (freezeN h 7)).map .tup := rfl
@[simp] theorem reachN_tup {vs : List AV} {d : Nat} : reachN h (d + 1) (.tup vs) = vs.flatMap (reachN h d) := rfl

/-! ### Own slices of one cell an element -/

/-- The cells of an own slice. -/
def mapV {α : Type} (f : α → AV) (l : List α) : List AV := l.map f
@[simp] theorem length_mapV {α : Type} {f : α → AV} {l : List α} : (mapV f l).length = l.length := by simp [mapV]
@[simp] theorem get?_mapV {α : Type} {f : α → AV} {l : List α} {i : Nat} : (mapV f l)[i]? = l[i]?.map f := by simp [mapV]
@[simp] theorem get_mapV {α : Type} {f : α → AV} {l : List α} {i : Nat} (h : i < (mapV f l).length) : (mapV f l)[i] = f (l[i]'(by simpa using h)) := by simp [mapV]
theorem set_mapV {α : Type} {f : α → AV} {l : List α} {i : Nat} {x : α} : (mapV f l).set i (f x) = mapV f (l.set i x) := by simp [mapV]
theorem replicate_mapV {α : Type} {f : α → AV} {n : Nat} {x : α} : List.replicate n (f x) = mapV f (List.replicate n x) := by simp [mapV]


theorem chunks_one : ∀ {n : Nat} {cs : List AV}, n ≤ cs.length → chunks false 1 n cs = cs.take n
  | 0, cs, _ => by simp [chunks]
  | n + 1, [], h => by simp at h
  | n + 1, c :: cs, h => by
    simp only [chunks, List.headD_cons, List.drop_succ_cons, List.drop_zero, List.take_succ_cons, Bool.false_eq_true, if_false]
    rw [chunks_one (by simpa using h)]
theorem mapM_freeze {α : Type} {f : α → AV} {h : Store} {d : Nat} (hf : ∀ x, freezeN h d (f x) = some (f x)) (l : List α) : (l.map f).mapM (freezeN h d) = some (l.map f) := by
  apply mapM_id
  intro c hc
  obtain ⟨x, _, rfl⟩ := List.mem_map.1 hc
  exact hf x
theorem freezeN_osl {h : Store} {d b off len cap : Nat} : freezeN h (d + 1) (.osl b off len cap) = match getB h b with
      | some blk => if off + len * blk.esz ≤ blk.cells.length then ((blk.cells.drop off).take (len * blk.esz)).mapM (freezeN h d) |>.map fun cs => .sl blk.esz (chunks blk.ag blk.esz len cs) else none
      | none => none := rfl
theorem reachN_osl {h : Store} {d b off len cap : Nat} : reachN h (d + 1) (.osl b off len cap) = b :: (match getB h b with | some blk => blk.cells.flatMap (reachN h d) | none => []) := rfl
/-- An own slice as data. -/
theorem freeze_own {α : Type} {f : α → AV} {h : Store} {b off len cap : Nat} {l : List α} {ro : Bool} (hb : getB h b = some ⟨mapV f l, 1, false, ro⟩) (hl : off + len ≤ l.length) (hf : ∀ x d, freezeN h (d + 1) (f x) = some (f x)) :
    freeze h (.osl b off len cap) = some (slA 1 f (some ((l.drop off).take len))) := by
  unfold mapV at hb
  have h1 : off + len * 1 ≤ (l.map f).length := by simpa using hl
  have h2 : ((l.map f).drop off).take (len * 1) = ((l.drop off).take len).map f := by simp
  unfold freeze
  rw [freezeN_osl, hb]
  simp only [if_pos h1, h2]
  rw [mapM_freeze (fun x => hf x 6), Option.map_some, chunks_one (by simp; omega)]
  simp [slA]
  exact List.take_of_length_le (by simp; omega)
theorem freeze_own_if {α : Type} {f : α → AV} {h : Store} {b off len cap : Nat} {l : List α} {ro : Bool} (hb : getB h b = some ⟨mapV f l, 1, false, ro⟩) (hf : ∀ x d, freezeN h (d + 1) (f x) = some (f x)) :
    freeze h (.osl b off len cap) = if off + len ≤ l.length then some (slA 1 f (some ((l.drop off).take len))) else none := by
  split
  · exact freeze_own hb (by assumption) hf
  · unfold freeze
    rw [freezeN_osl, hb]
    simp only [length_mapV, Nat.mul_one]
    rw [if_neg (by assumption)]
theorem reach_own {α : Type} {f : α → AV} {h : Store} {b off len cap : Nat} {l : List α} {ro : Bool} (hb : getB h b = some ⟨mapV f l, 1, false, ro⟩) (hf : ∀ x d, reachN h (d + 1) (f x) = []) :
    reachN h 8 (.osl b off len cap) = [b] := by
  unfold mapV at hb
  have : (l.map f).flatMap (reachN h 7) = [] := by
    simp only [List.flatMap_map, List.flatMap_eq_nil_iff]
    intro x _; exact hf x 6
  rw [reachN_osl, hb]
  simp only [this]

@[simp] theorem LIM_eq : LIM = 17179869184 := rfl

end Go.Proofs.YteaopgkajbfkeaaGreatDoor
