/- From a law as data of the evaluator to its row: the argument is opened, the call is the evaluator's, and what was there is as it was. -/
import Derived.Test.YteaopgkajbfkeaaGreatDoorWAH
import Derived.Test.YteaopgkajbfkeaaGreatDoorWAE
import Derived.ChangeSame
import Derived.LaidLaws
import Derived.Stop.LaidErr
import Derived.Lib.LaidTab
import Derived.MakeChecks
import Derived.Handed
import Derived.Carry
import Derived.Stop.Joined
set_option linter.unusedSimpArgs false
set_option linter.unusedVariables false
namespace Go.Proofs.YteaopgkajbfkeaaGreatDoor
open Go Go.RowKit Go.ChangeShapes

theorem trodAll_len {H : Type} {enc : TypeId × Value → H} {P : Program} {w : World} {base : Nat} {spare : Nat → Bool} {held : Bool} : ∀ {ts : List TypeId} {vs : List Value} {ds : List (DataW H)} {ps : List MemPlace}, DataW.TrodAll enc P w base spare held ts vs ds ps → ds.length = ts.length
  | [], _, _, _, h => by obtain ⟨_, rfl, _⟩ := trodAll_nil h; rfl
  | t :: ts, _, _, _, h => by
    obtain ⟨v, vs', d, ds', p, q, rfl, rfl, rfl, h1, h2⟩ := trodAll_cons h
    simp [trodAll_len h2]

/-- The arguments read again behind the call as they did. -/
theorem trodAll_again {H : Type} {enc : TypeId × Value → H} {P : Program} {W W' : World} (hl : laidOutB P = true) (hb : Below W.heap.size W W') : ∀ {ts : List TypeId} {vs : List Value} {ds : List (DataW H)} {ps : List MemPlace},
    (∀ t ∈ ts, P.readableRec t = true ∧ t < P.types.size) → DataW.TrodAll enc P W 0 (fun _ => true) true ts vs ds ps → (∀ x ∈ ps, x.block < W.heap.size) → DataW.TrodAll enc P W' 0 (fun b => decide (b < W.heap.size)) true ts vs ds ps
  | [], _, _, _, _, h, _ => by obtain ⟨rfl, rfl, rfl⟩ := trodAll_nil h; rfl
  | t :: ts, _, _, _, ht, h, hlt => by
    obtain ⟨v, vs', d, ds', p, q, rfl, rfl, rfl, h1, h2⟩ := trodAll_cons h
    exact ⟨p, q, Below.trod hl (ht t (by simp)).1 (ht t (by simp)).2 h1 hb (fun x hx => hlt x (List.mem_append_left _ hx)), trodAll_again hl hb (fun t h => ht t (by simp [h])) h2 (fun x hx => hlt x (List.mem_append_right _ hx)), rfl⟩

theorem Globs_tab {P : Program} {w : World} {name : String} {k : IntKind} {zs : List Int} {g : Nat} (h : Lib.TabIs P w name k zs) (hg : P.globalNamed name = some g) :
    ∃ xs, Reads w G0 g 0 xs ∧ VCs w G0 (zs.map fun z => AV.int k z) xs ∧ (zs.map fun z => AV.int k z).all AV.one = true := by
  refine ⟨zs.map fun z => Value.int k z, ?_, ?_, ?_⟩
  · intro j x hj
    refine ⟨?_, trivial⟩
    have := World.var?_cell hg h j
    rw [Nat.zero_add, this]
    simpa using hj
  · induction zs with
    | nil => exact .nil
    | cons z zs ih =>
      refine .cons (.int k z) ?_
      clear ih h
      induction zs with
      | nil => exact .nil
      | cons z zs ih => exact .cons (.int k z) ih
  · rw [List.all_map, List.all_eq_true]; intro z _; rfl

section
variable {C : Checked} {T : Nat → Option Ent} {Gl : Nat → Option (List AV)} {f : FuncId} {fn : Func} {s : ChangeSpec} {apart : Bool} {laid : List (String × DataW Unit)} {tb : TypeId} {good : List AV → Prop}

/-- The row's law, lifted. -/
theorem law_lifted (hT : TableOK C.prog Gl T) (own : ownKnob C.prog.godebug = none) (noInit : C.prog.inits.idxOf? f = none) (hfn : C.prog.funcs[f]? = some fn) (hvars : s.vars = [])
    (hs : ∀ (H : Type) (ds : List (DataW H)), ds.length = fn.params.toList.length → s.fn H ds = { results := [.lit (.bool true)], args := ds })
    (hres : fn.resultTypes = #[tb]) (htb : C.prog.underlying tb = some .bool) (plain : (laid.all fun x => x.2.handleName?.isNone) = true) (hl : laidOutB C.prog = true)
    (hbook : ∀ t ∈ fn.params.toList, C.prog.readableRec t = true ∧ t < C.prog.types.size) (hG : ∀ W, laidMet C.prog laid W → Globs Gl W G0)
    (hargs : ∀ (H : Type) (enc : TypeId × Value → H) W, Args enc C.prog W 0 (fun _ => true) true fn.params.toList good) (hlaw : ∀ us, good us → (Om T Gl).q f us = some (.bool true))
    (os : Os) (started : os.Started) (H : Type) (enc : TypeId × Value → H)
    (wit : ∃ (w : World) (tape : Tape) (i : Input), w.os = os ∧ (w.forCall tape i).Shaped C.prog ∧ i.vars = [] ∧ Input.okWide C.prog (w.forCall tape i) .any w.heap.size f i ∧
      ((s.pre enc C.prog fn [] apart (w.forCall tape i).memory i.args ∧ laidMetH C.prog laid (w.forCall tape i).memory) ∧ sizedMet enc C.prog fn (OpenSpec.ofChange s) apart (w.forCall tape i).memory i.args) ∧ ({ modest := false } : Assume).holds C.prog (lone (Frame.enter C.prog f i.args .normal) [] (w.forCall tape i))) :
    ReturnsInHanded {} C os f .any (fun w args => (s.pre enc C.prog fn [] apart w args ∧ laidMetH C.prog laid w) ∧ sizedMet enc C.prog fn (OpenSpec.ofChange s) apart w args)
      (s.post enc C.prog fn apart true false false) := by
  refine returnsInHanded_of_change_and (C := C) (X := fun w _ => laidMetH C.prog laid w) (fun _ _ _ hh h => h.of_heap hh) own started noInit hfn wit ?_
  intro W base args ds gs before hval hW _ hwt hL _
  have hW' := hW
  have hlt := hW.lt
  obtain ⟨p, q, hA, hV, rfl, _, _⟩ := hW
  rw [hvars] at hV
  obtain ⟨rfl, rfl⟩ := trodVars_none hV
  rw [List.append_nil] at hlt hwt
  have hvt : s.plain.varTypes C.prog = [] := by
    simp [ChangeSpec.plain, DataSpec.varTypes, hvars]
  rw [hvt, List.append_nil] at hwt
  obtain ⟨us, hv, hg⟩ := hargs H enc W base args.toList ds p (fun j t v ht hv => hval j t v (by simpa using ht) (by simpa using hv)) hA (fun n hn => by simpa using List.all_eq_true.1 hwt n hn)
  have hq := hlaw us hg
  rw [MakeChecks.laidMetH_plain _ _ _ plain] at hL
  have call := Om_q_ok hT f us (.bool true) hq W (fun _ => .imm) args.toList (by intro r b h; cases h) (by intro r _; rfl) hv (hG W hL)
  refine call.mono ?_
  rintro e w' ⟨y, rfl, hb, G', _, hy⟩
  have hy' : y = .bool true := by cases hy; rfl
  subst hy'
  have hfnd := hs H (ds ++ []) (by rw [List.append_nil]; exact trodAll_len hA)
  refine ⟨_, rfl, ds, [], p ++ [], [], p, [], hW', ?_, ?_, ?_, hb.frame _, fun h => by cases h⟩
  · rw [hfnd, hres]; exact trodAll_mk1 (shut_bool htb true)
  · rw [hfnd, List.append_nil]; exact trodAll_again hl hb hbook hA hlt
  · rw [hfnd, hvars]; rfl
end
end Go.Proofs.YteaopgkajbfkeaaGreatDoor
