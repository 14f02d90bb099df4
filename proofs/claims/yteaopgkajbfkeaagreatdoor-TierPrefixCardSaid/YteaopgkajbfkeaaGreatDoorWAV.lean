/- Proved: the tied card of culet/culetlaw16.TierPrefix returns true for every input, and its arguments read behind the call as they read before. Conditions: those of the given row alone (its own cells, printed with it); none is added here. -/
import Derived.Test.YteaopgkajbfkeaaGreatDoorWAI
import Derived.Test.YteaopgkajbfkeaaGreatDoorWAO
import Derived.Test.YteaopgkajbfkeaaGreatDoorWAJ
import Derived.Test.YteaopgkajbfkeaaGreatDoorWAP
import Derived.Test.YteaopgkajbfkeaaGreatDoorWAQ
import Derived.Test.YteaopgkajbfkeaaGreatDoorWAU
import Derived.Test.YteaopgkajbfkeaaGreatDoorRows
import Derived.Test.YteaopgkajbfkeaaGreatDoorTie
import Derived.Test.YteaopgkajbfkeaaGreatDoorCards
import Derived.SevenTiedAt
import Derived.ProofKit
import Derived.Lay
import Derived.LaidMore
import Derived.Stop.Joined
set_option linter.unusedSimpArgs false
set_option linter.unusedVariables false
namespace Go.Proofs.YteaopgkajbfkeaaGreatDoor
open Go Go.ChangeShapes Go.WideShapes Go.ChangeAt Go.RowKit
set_option maxRecDepth 100000
theorem prim_ok : ∀ p ∈ primL, PrimOK Tryz.prog GG p.1 p.2 := by
  simp only [primL, List.forall_mem_cons]
  exact ⟨prim_Join sh156 shX156 (by kernel_rfl), prim_Repeat sh105 shX105 (by kernel_rfl), by simp⟩
theorem tt_ok : TableOK Tryz.prog GG TT where
  orders := by kernel_rfl
  code := by
    intro g Fn h
    unfold TT at h
    split at h
    · cases h
    · simp only [Option.map_eq_some_iff] at h
      obtain ⟨F, hF, e⟩ := h
      cases e
      exact tab_ok hF
  prim := by
    intro g f h
    unfold TT at h
    split at h
    · rename_i p hp
      cases h
      have h1 := prim_ok p (List.mem_of_find?_eq_some hp)
      have h2 := List.find?_some hp
      simp only [beq_iff_eq] at h2
      rw [← h2]; exact h1
    · simp only [Option.map_eq_some_iff] at h
      obtain ⟨F, hF, e⟩ := h
      cases e
theorem glob_ok (W : World) (h : laidMet Tryz.prog Rows.tierPrefixRow.laid W) : Globs GG W G0 := by
  intro g cs hg
  unfold GG at hg
  simp only [Option.map_eq_some_iff] at hg
  obtain ⟨p, hp, rfl⟩ := hg
  have hm := List.mem_of_find?_eq_some hp
  have h2 := List.find?_some hp
  simp only [globL, List.mem_cons, List.not_mem_nil, or_false] at hm
  rcases hm with rfl
  · simp only [beq_iff_eq] at h2
    rw [← h2]
    have ht := Lib.tabIs_of_head (P := Tryz.prog) (name := "internal/strconv.uint64pow10") (k := .u64) (zs := [1, 10, 100, 1000, 10000, 100000, 1000000, 10000000, 100000000, 1000000000, 10000000000, 100000000000, 1000000000000, 10000000000000, 100000000000000, 1000000000000000, 10000000000000000, 100000000000000000, 1000000000000000000, 10000000000000000000]) (g := 2) (t := 208) (e := 127) (n := 20) (by kernel_rfl) (by kernel_rfl) Tryz.underlying208 Tryz.underlying127 (by kernel_rfl) (by kernel_rfl) (h.tail.tail)
    exact Globs_tab ht (by kernel_rfl)
theorem lifted (os : Os) (started : os.Started) (H : Type) (enc : TypeId × Value → H) :
    ReturnsInHanded {} Tryz.checked os 3 .any (fun w args => (Rows.tierPrefixSpec.pre enc Tryz.prog Tryz.f3 [] false w args ∧ laidMetH Tryz.prog Rows.tierPrefixRow.laid w) ∧ sizedMet enc Tryz.prog Tryz.f3 (OpenSpec.ofChange Rows.tierPrefixSpec) false w args)
      (Rows.tierPrefixSpec.post enc Tryz.prog Tryz.f3 false true false false) :=
  law_lifted (C := Tryz.checked) (fn := Tryz.f3) (s := Rows.tierPrefixSpec) (tb := 4) tt_ok (by kernel_rfl) (by kernel_rfl) Tryz.func3 rfl
    (by intro H ds h; rw [Tryz.params3] at h; match ds, h with | [d1, d2], _ => rfl) (by kernel_rfl) Tryz.underlying4 (by kernel_rfl) (by kernel_rfl)
    (by
      rw [Tryz.params3]
      intro t ht
      have hall : ([24, 5].all fun t => Tryz.prog.readableRec t && Nat.blt t Tryz.prog.types.size) = true := by kernel_rfl
      have := List.all_eq_true.1 hall t ht
      simp only [Bool.and_eq_true] at this
      exact ⟨this.1, Nat.le_of_ble_eq_true this.2⟩)
    glob_ok (fun H enc W => by rw [Tryz.params3]; exact args_open) law_holds os started H enc
    (ChangeSpec.witness_shaped (s := Rows.tierPrefixSpec) (fn := Tryz.f3) (conds := []) (apart := false) (f := 3) (enc := enc) (C := Tryz.checked) (os := os) (X := fun w _ => laidMetH Tryz.prog Rows.tierPrefixRow.laid w) false (World.laidAll Tryz.prog os Rows.tierPrefixRow.laid) #[.agg #[.string ⟨#[]⟩, .int .i64 0, .bool false, .slice none 0 0], .int .u8 0] 8 (World.laidAll_os _ _ _)
      (World.shaped_of_ZipB (by kernel_rfl) (by kernel_rfl)) (by kernel_rfl) (by kernel_rfl) (by kernel_rfl)
      (by rw [MakeChecks.laidMetH_plain _ _ _ (by kernel_rfl)]; exact laidMet_laidAll _ (by kernel_rfl) (by kernel_rfl)))
theorem row_holds : Rows.TierPrefixSaid :=
  OpenClaim.holds_of_wide 3 Tryz.f3 rfl rfl rfl rfl rfl rfl rfl ⟨rfl, rfl, rfl, rfl, rfl⟩ rfl rfl rfl rfl rfl (by kernel_rfl) Tryz.func3 (by kernel_rfl)
    (of_decide_eq_true (by kernel_rfl)) (by unfold Func.isWrapper; first | (rw [if_pos (by decide +kernel)]; kernel_rfl) | (rw [if_neg (by decide +kernel)]; exact ⟨rfl, rfl⟩))
    (fun os started H enc _ => lifted os started H enc)
theorem card_holds : Rows.TierPrefixCardSaid :=
  Claim7.holds_tied_plain_at .later [] [.data, .data, .data, .data, .sentinel, .sentinel, .pinned] true (true, "8b20a509076c287fbb11ac9bc650a8c83eb4479f34da7153ed131181c74b69b3") true row_holds (fun _ h => by cases h) (by kernel_rfl) (fun _ h => by cases h) tierPrefix_row_tie rfl ⟨rfl, rfl⟩ (by kernel_rfl) rfl
    (fun f fn hf hfn => by
      obtain rfl : f = 3 := Option.some.inj ((show Tryz.prog.funcNamed "culet/culetlaw16.TierPrefix" = some 3 by kernel_rfl).symm.trans hf) |>.symm
      obtain rfl : fn = Tryz.f3 := (Option.some.inj (Tryz.func3.symm.trans hfn)).symm
      exact ⟨by kernel_rfl, fun j t ht => by
        rw [Tryz.params3] at ht
        have hm : t ∈ [24, 5] := by simpa using Array.mem_of_getElem? ht
        have hall : ([24, 5].all fun u => !Tryz.prog.wantsStandIn u) = true := by kernel_rfl
        exact (show Tryz.prog.wantsStandIn t = false by simpa using List.all_eq_true.1 hall t hm)⟩)
    (by kernel_rfl)
#print axioms card_holds
end Go.Proofs.YteaopgkajbfkeaaGreatDoor
