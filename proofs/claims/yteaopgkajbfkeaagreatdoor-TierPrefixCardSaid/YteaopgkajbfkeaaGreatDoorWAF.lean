/- What is shown of a function's text: the way through it, step by step. Library functions that are given their own meaning, and tables of the library. Definitions alone. -/
import Derived.Test.YteaopgkajbfkeaaGreatDoorWAE
set_option linter.unusedSimpArgs false
set_option linter.unusedVariables false
namespace Go.Proofs.YteaopgkajbfkeaaGreatDoor
open Go Go.RowKit

variable {C : Env} {b0 : Nat}

/-- The code, from the state, ends as said. -/
def W (C : Env) (b0 : Nat) (pc : PCode) (st : St) (Q : Ex → St → Prop) : Prop := ∃ ex st', evL C b0 pc st = some (ex, st') ∧ Q ex st'

def Wr (C : Env) (b0 : Nat) (l : List PRow) (st : St) (Q : St → Prop) : Prop := ∃ st', evRows C b0 l st = some st' ∧ Q st'

theorem W.rows {l : List PRow} {st : St} {Q : Ex → St → Prop} (h : Wr C b0 l st (Q .nrm)) : W C b0 (.rows l) st Q := by
  obtain ⟨s, h1, h2⟩ := h
  exact ⟨.nrm, s, by simp only [evL, h1, Option.map_some], h2⟩

theorem Wr.of {l : List PRow} {st st' : St} {Q : St → Prop} (h : evRows C b0 l st = some st') (hq : Q st') : Wr C b0 l st Q := ⟨st', h, hq⟩

theorem W.skip {st : St} {Q : Ex → St → Prop} (h : Q .nrm st) : W C b0 .skip st Q := ⟨_, _, rfl, h⟩
theorem W.ret {st : St} {Q : Ex → St → Prop} (h : Q .ret st) : W C b0 .ret st Q := ⟨_, _, rfl, h⟩
theorem W.exit {i : Nat} {st : St} {Q : Ex → St → Prop} (h : Q (.exit i) st) : W C b0 (.exit i) st Q := ⟨_, _, rfl, h⟩

/-- Behind a first part. -/
def seqQ (P : St → Prop) (Q : Ex → St → Prop) : Ex → St → Prop
  | .nrm, st => P st
  | e, st => Q e st

theorem W.seq {a b : PCode} {st : St} {Q : Ex → St → Prop} (h : W C b0 a st (seqQ (fun s => W C b0 b s Q) Q)) : W C b0 (.seq a b) st Q := by
  obtain ⟨ex, s, h1, h2⟩ := h
  cases ex with
  | nrm =>
    obtain ⟨ex', s', h3, h4⟩ := h2
    exact ⟨ex', s', by simp only [evL, h1]; exact h3, h4⟩
  | exit i => exact ⟨.exit i, s, by simp only [evL, h1], h2⟩
  | ret => exact ⟨.ret, s, by simp only [evL, h1], h2⟩

theorem W.cond {c : POpd} {a b : PCode} {st : St} {Q : Ex → St → Prop} {t : Bool} (hc : c.get st.1 = .bool t) (h : if t then W C b0 a st Q else W C b0 b st Q) : W C b0 (.cond c a b) st Q := by
  cases t with
  | true => obtain ⟨ex, s, h1, h2⟩ := h; exact ⟨ex, s, by simp only [evL, hc, if_true]; exact h1, h2⟩
  | false => obtain ⟨ex, s, h1, h2⟩ := h; exact ⟨ex, s, by simp only [evL, hc, Bool.false_eq_true, if_false]; exact h1, h2⟩

/-- A block catches its exit. -/
def blockQ (i : Nat) (Q : Ex → St → Prop) : Ex → St → Prop
  | .exit j, st => if j = i then Q .nrm st else Q (.exit j) st
  | e, st => Q e st

theorem W.block {i : Nat} {a : PCode} {st : St} {Q : Ex → St → Prop} (h : W C b0 a st (blockQ i Q)) : W C b0 (.block i a) st Q := by
  obtain ⟨ex, s, h1, h2⟩ := h
  cases ex with
  | nrm => exact ⟨.nrm, s, by simp only [evL, h1], h2⟩
  | ret => exact ⟨.ret, s, by simp only [evL, h1], h2⟩
  | exit j =>
    simp only [blockQ] at h2
    split at h2
    · rename_i e; exact ⟨.nrm, s, by simp only [evL, h1, e, if_true], h2⟩
    · rename_i e; exact ⟨.exit j, s, by simp only [evL, h1, if_neg e], h2⟩

/-- The same as rules of rewriting. -/
theorem W_rows {l : List PRow} {st : St} {Q : Ex → St → Prop} : W C b0 (.rows l) st Q ↔ Wr C b0 l st (Q .nrm) := by
  refine ⟨fun ⟨ex, s, h1, h2⟩ => ?_, W.rows⟩
  simp only [evL, Option.map_eq_some_iff, Prod.mk.injEq] at h1
  obtain ⟨s', h3, rfl, rfl⟩ := h1
  exact ⟨_, h3, h2⟩
theorem W_skip {st : St} {Q : Ex → St → Prop} : W C b0 .skip st Q ↔ Q .nrm st := ⟨fun ⟨_, _, h1, h2⟩ => by cases h1; exact h2, W.skip⟩
theorem W_ret {st : St} {Q : Ex → St → Prop} : W C b0 .ret st Q ↔ Q .ret st := ⟨fun ⟨_, _, h1, h2⟩ => by cases h1; exact h2, W.ret⟩
theorem W_exit {i : Nat} {st : St} {Q : Ex → St → Prop} : W C b0 (.exit i) st Q ↔ Q (.exit i) st := ⟨fun ⟨_, _, h1, h2⟩ => by cases h1; exact h2, W.exit⟩
theorem W_seq {a b : PCode} {st : St} {Q : Ex → St → Prop} : W C b0 (.seq a b) st Q ↔ W C b0 a st (seqQ (fun s => W C b0 b s Q) Q) := by
  refine ⟨fun ⟨ex, s, h1, h2⟩ => ?_, W.seq⟩
  simp only [evL] at h1
  split at h1
  · rename_i s1 h3
    exact ⟨.nrm, s1, h3, ex, s, h1, h2⟩
  · rename_i hne
    refine ⟨ex, s, h1, ?_⟩
    cases ex with
    | nrm => exact absurd h1 (hne _)
    | exit i => exact h2
    | ret => exact h2
theorem W_cond {c : POpd} {a b : PCode} {st : St} {Q : Ex → St → Prop} : W C b0 (.cond c a b) st Q ↔ ∃ t, c.get st.1 = .bool t ∧ if t then W C b0 a st Q else W C b0 b st Q := by
  refine ⟨fun ⟨ex, s, h1, h2⟩ => ?_, fun ⟨t, h1, h2⟩ => W.cond h1 h2⟩
  simp only [evL] at h1
  split at h1
  · rename_i t ht
    refine ⟨t, ht, ?_⟩
    cases t
    · exact ⟨ex, s, by simpa using h1, h2⟩
    · exact ⟨ex, s, by simpa using h1, h2⟩
  · cases h1
theorem W_block {i : Nat} {a : PCode} {st : St} {Q : Ex → St → Prop} : W C b0 (.block i a) st Q ↔ W C b0 a st (blockQ i Q) := by
  refine ⟨fun ⟨ex, s, h1, h2⟩ => ?_, W.block⟩
  simp only [evL] at h1
  split at h1
  · rename_i j s1 h3
    refine ⟨.exit j, s1, h3, ?_⟩
    simp only [blockQ]
    split at h1
    · rename_i e; cases h1; rw [if_pos e]; exact h2
    · rename_i e; cases h1; rw [if_neg e]; exact h2
  · rename_i hne
    refine ⟨ex, s, h1, ?_⟩
    cases ex with
    | nrm => exact h2
    | exit i => exact absurd h1 (hne _ _)
    | ret => exact h2

theorem W.holes {ds : List Nat} {a : PCode} {st : St} {Q : Ex → St → Prop} (h : W C b0 a (mkHoles ds st) Q) : W C b0 (.holes ds a) st Q := h

theorem W.mono {a : PCode} {st : St} {Q Q' : Ex → St → Prop} (h : W C b0 a st Q) (hq : ∀ e s, Q e s → Q' e s) : W C b0 a st Q' := by
  obtain ⟨ex, s, h1, h2⟩ := h; exact ⟨ex, s, h1, hq _ _ h2⟩

/-- A loop: its heads are known by a parameter that gets less. -/
theorem W.loop {α : Type} {keep : List Bool} {a : PCode} {Q : Ex → St → Prop} (I : α → St) (m : α → Nat)
    (hs : ∀ x, W C b0 a (I x) (seqQ (fun s => ∃ y, m y < m x ∧ forgetBut keep s = I y) Q)) {st : St} (x : α) (hx : forgetBut keep st = I x) : W C b0 (.loop keep a) st Q := by
  have key : ∀ n x st, m x = n → forgetBut keep st = I x → ∃ ex s, loopL (fun s => evL C b0 a (forgetBut keep s)) st = some (ex, s) ∧ Q ex s := by
    intro n
    induction n using Nat.strongRecOn with
    | _ n ih =>
      intro x st hm hx
      obtain ⟨ex, s, h1, h2⟩ := hs x
      rw [loopL_step]
      simp only [hx, h1]
      cases ex with
      | nrm =>
        obtain ⟨y, hy, hy2⟩ := h2
        exact ih (m y) (by omega) y s rfl hy2
      | exit i => exact ⟨_, _, rfl, h2⟩
      | ret => exact ⟨_, _, rfl, h2⟩
  exact key _ x st rfl hx

/-- A function gives what is said. -/
def Gives' (C : Env) (F : PFun) (us : List AV) (h : Store) (P : AV → Store → Prop) : Prop := ∃ v h', evF C F us h = some (v, h') ∧ P v h'

theorem Gives'.of {F : PFun} {us : List AV} {h : Store} {P : AV → Store → Prop} (hw : W C h.length F.body (start F us h) fun ex st => (∀ i, ex ≠ .exit i) ∧ ∃ vs, F.res.mapM (PRes.get st) = some vs ∧ P (one? vs) st.2) : Gives' C F us h P := by
  obtain ⟨ex, s, h1, h2, vs, h3, h4⟩ := hw
  refine ⟨one? vs, s.2, ?_, h4⟩
  unfold evF
  rw [h1]
  cases ex with
  | exit i => exact absurd rfl (h2 i)
  | nrm => simp only [finish, h3, Option.map_some]
  | ret => simp only [finish, h3, Option.map_some]

end Go.Proofs.YteaopgkajbfkeaaGreatDoor
namespace Go.Proofs.YteaopgkajbfkeaaGreatDoor
open Go

def strsOf : List AV → Option (List (List UInt8))
  | [] => some []
  | .str s :: r => (strsOf r).map (s :: ·)
  | _ => none
/-- strings.Join. -/
def joinP : List AV → Option AV
  | [.sl 1 vs, .str sep] => (strsOf vs).bind fun l => if (List.intercalate sep l).length ≤ LIM ∧ l.length ≤ LIM then some (.str (List.intercalate sep l)) else none
  | [.nils, .str _] => some (.str [])
  | _ => none
/-- strings.Repeat. -/
def repeatP : List AV → Option AV
  | [.str s, .int .i64 n] => if 0 ≤ n ∧ n ≤ LIM ∧ s.length * n.toNat ≤ LIM then some (.str (List.replicate n.toNat s).flatten) else none
  | _ => none
/-- The powers of ten that a machine word holds. -/
def pow10G : List AV := (List.range 20).map fun i => .int .u64 ((10 ^ i : Nat) : Int)

end Go.Proofs.YteaopgkajbfkeaaGreatDoor
