/- The arguments of the law, opened: what is read at each type is a structure of data. Printed. -/
import Derived.Test.YteaopgkajbfkeaaGreatDoorWAM
import Derived.Test.YteaopgkajbfkeaaGreatDoorProg
import Derived.KernelRfl
set_option linter.unusedSimpArgs false
set_option linter.unusedVariables false
namespace Go.Proofs.YteaopgkajbfkeaaGreatDoor
open Go
set_option maxRecDepth 100000
section
variable {H : Type} {enc : TypeId × Value → H} {W : World}
theorem rd_9 : Rd enc Tryz.prog W 0 (fun _ => true) true 9 (fun s : List UInt8 => [AV.str s]) (fun s => s.length ≤ reachBytes) := Rd_str Tryz.underlying9
theorem rd_3 : Rd enc Tryz.prog W 0 (fun _ => true) true 3 (fun n : Int => [AV.int .i64 n]) (fun n => (Lit.int .i64 n).wf = true) := Rd_int Tryz.underlying3
theorem rd_4 : Rd enc Tryz.prog W 0 (fun _ => true) true 4 (fun b : Bool => [AV.bool b]) (fun _ => True) := Rd_bool Tryz.underlying4
theorem rd_36 : Rd enc Tryz.prog W 0 (fun _ => true) true 36 (fun o : Sl (Int) => [slA 1 i64A o]) (fun o => (∀ y ∈ lst o, (fun n => (Lit.int .i64 n).wf = true) y) ∧ (lst o).length ≤ reachBytes) := Rd_slice i64A 1 (fun _ => rfl) Tryz.underlying36 (by kernel_rfl) (by decide) (by kernel_rfl) rd_3 (fun _ => rfl) (fun _ => rfl) (fun _ => rfl)
theorem rd_42 : Rd enc Tryz.prog W 0 (fun _ => true) true 42 GInt.C GInt.T := (Rd_struct Tryz.underlying42 (by kernel_rfl) (RdF_cons rfl (off' := 1) (by kernel_rfl) rd_4 (RdF_cons rfl (off' := 2) (by kernel_rfl) rd_9 (RdF_nil)))).map (fun p => (⟨p.1, p.2.1⟩ : GInt)) (fun _ _ => rfl) (fun _ h => h)
theorem rd_43 : Rd enc Tryz.prog W 0 (fun _ => true) true 43 GArr.C GArr.T := (Rd_array Tryz.underlying43 (by kernel_rfl) rd_42).map (fun l => (⟨l.getD 0 default, l.getD 1 default, l.getD 2 default, l.getD 3 default⟩ : GArr)) (fun a h => by match a, h.1 with | [a0, a1, a2, a3], _ => rfl) (fun a h => by
  match a, h with | [a0, a1, a2, a3], h => exact ⟨h.2 a0 (by simp), h.2 a1 (by simp), h.2 a2 (by simp), h.2 a3 (by simp), trivial⟩)
theorem rd_45 : Rd enc Tryz.prog W 0 (fun _ => true) true 45 GNum.C GNum.T := (Rd_struct Tryz.underlying45 (by kernel_rfl) (RdF_cons rfl (off' := 8) (by kernel_rfl) rd_43 (RdF_cons rfl (off' := 10) (by kernel_rfl) rd_42 (RdF_nil)))).map (fun p => (⟨p.1, p.2.1⟩ : GNum)) (fun _ _ => rfl) (fun _ h => h)
theorem rd_47 : Rd enc Tryz.prog W 0 (fun _ => true) true 47 GVec.C GVec.T := (Rd_struct Tryz.underlying47 (by kernel_rfl) (RdF_cons rfl (off' := 10) (by kernel_rfl) rd_45 (RdF_cons rfl (off' := 20) (by kernel_rfl) rd_45 (RdF_cons rfl (off' := 30) (by kernel_rfl) rd_45 (RdF_nil))))).map (fun p => (⟨p.1, p.2.1, p.2.2.1⟩ : GVec)) (fun _ _ => rfl) (fun _ h => h)
theorem rd_60 : Rd enc Tryz.prog W 0 (fun _ => true) true 60 GRef.C GRef.T := (Rd_struct Tryz.underlying60 (by kernel_rfl) (RdF_cons rfl (off' := 1) (by kernel_rfl) rd_9 (RdF_cons rfl (off' := 2) (by kernel_rfl) rd_3 (RdF_nil)))).map (fun p => (⟨p.1, p.2.1⟩ : GRef)) (fun _ _ => rfl) (fun _ h => h)
theorem rd_48 : Rd enc Tryz.prog W 0 (fun _ => true) true 48 (fun o : Sl (GRef) => [slA 2 (fun y => AV.agg (GRef.C y)) o]) (fun o => (∀ y ∈ lst o, GRef.T y) ∧ (lst o).length ≤ reachBytes) := Rd_slice (fun y => AV.agg (GRef.C y)) 2 (fun _ => rfl) Tryz.underlying48 (by kernel_rfl) (by decide) (by kernel_rfl) rd_60 (fun _ => rfl) (fun _ => rfl) GRef.ones
theorem rd_50 : Rd enc Tryz.prog W 0 (fun _ => true) true 50 GFix.C GFix.T := (Rd_struct Tryz.underlying50 (by kernel_rfl) (RdF_cons rfl (off' := 1) (by kernel_rfl) rd_3 (RdF_cons rfl (off' := 11) (by kernel_rfl) rd_45 (RdF_cons rfl (off' := 41) (by kernel_rfl) rd_47 (RdF_cons rfl (off' := 42) (by kernel_rfl) rd_48 (RdF_nil)))))).map (fun p => (⟨p.1, p.2.1, p.2.2.1, p.2.2.2.1⟩ : GFix)) (fun _ _ => rfl) (fun _ h => h)
theorem rd_52 : Rd enc Tryz.prog W 0 (fun _ => true) true 52 GTier.C GTier.T := (Rd_struct Tryz.underlying52 (by kernel_rfl) (RdF_cons rfl (off' := 1) (by kernel_rfl) rd_9 (RdF_cons rfl (off' := 2) (by kernel_rfl) rd_3 (RdF_cons rfl (off' := 3) (by kernel_rfl) rd_3 (RdF_cons rfl (off' := 4) (by kernel_rfl) rd_36 (RdF_cons rfl (off' := 46) (by kernel_rfl) rd_50 (RdF_nil))))))).map (fun p => (⟨p.1, p.2.1, p.2.2.1, p.2.2.2.1, p.2.2.2.2.1⟩ : GTier)) (fun _ _ => rfl) (fun _ h => h)
theorem rd_22 : Rd enc Tryz.prog W 0 (fun _ => true) true 22 (fun o : Sl (GTier) => [slA 46 (fun y => AV.agg (GTier.C y)) o]) (fun o => (∀ y ∈ lst o, GTier.T y) ∧ (lst o).length ≤ reachBytes) := Rd_slice (fun y => AV.agg (GTier.C y)) 46 (fun _ => rfl) Tryz.underlying22 (by kernel_rfl) (by decide) (by kernel_rfl) rd_52 (fun _ => rfl) (fun _ => rfl) GTier.ones
theorem rd_24 : Rd enc Tryz.prog W 0 (fun _ => true) true 24 GDesign.C GDesign.T := (Rd_struct Tryz.underlying24 (by kernel_rfl) (RdF_cons rfl (off' := 1) (by kernel_rfl) rd_9 (RdF_cons rfl (off' := 2) (by kernel_rfl) rd_3 (RdF_cons rfl (off' := 3) (by kernel_rfl) rd_4 (RdF_cons rfl (off' := 4) (by kernel_rfl) rd_22 (RdF_nil)))))).map (fun p => (⟨p.1, p.2.1, p.2.2.1, p.2.2.2.1⟩ : GDesign)) (fun _ _ => rfl) (fun _ h => h)
theorem rd_5 : Rd enc Tryz.prog W 0 (fun _ => true) true 5 (fun n : Int => [AV.int .u8 n]) (fun n => (Lit.int .u8 n).wf = true) := Rd_int Tryz.underlying5
theorem args_open : Args enc Tryz.prog W 0 (fun _ => true) true [24, 5] (fun us => ∃ (x0 : GDesign) (x1 : Int), us = [(fun x => AV.agg (GDesign.C x)) x0, (fun n : Int => AV.int .u8 n) x1] ∧ GDesign.T x0 ∧ (fun n => (Lit.int .u8 n).wf = true) x1) :=
  (Args_cons (rd_24.arg_agg (.inl ⟨_, Tryz.underlying24⟩) GDesign.ones) (Args_cons (Rd.arg_one (f := (fun n : Int => AV.int .u8 n)) rd_5 (fun _ h => by rw [Tryz.underlying5] at h; cases h) (fun _ _ h => by rw [Tryz.underlying5] at h; cases h)) (Args_nil))).mono (fun us h => by
  obtain ⟨x0, _, rfl, kx0, x1, _, rfl, kx1, rfl⟩ := h
  exact ⟨x0, x1, rfl, kx0, kx1⟩)
end
end Go.Proofs.YteaopgkajbfkeaaGreatDoor
