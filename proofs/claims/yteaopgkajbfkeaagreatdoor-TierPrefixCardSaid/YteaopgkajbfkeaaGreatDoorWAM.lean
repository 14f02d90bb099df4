/- What the reading of a structure bears: its numbers are of their kinds, its strings and slices no longer than a row lets them be. Printed. -/
import Derived.Test.YteaopgkajbfkeaaGreatDoorWAL
import Derived.Test.YteaopgkajbfkeaaGreatDoorWAH
set_option linter.unusedSimpArgs false
set_option linter.unusedVariables false
namespace Go.Proofs.YteaopgkajbfkeaaGreatDoor
open Go
theorem slA_one {α : Type} (e : Nat) (f : α → AV) (o : Sl α) : (slA e f o).one = true := by cases o <;> rfl
def GInt.T (x : GInt) : Prop := True ∧ x.mag.length ≤ reachBytes ∧ True
theorem GInt.ones (x : GInt) : (GInt.C x).all AV.one = true := by simp [GInt.C, one_bool, one_int, one_str, slA_one]
def GArr.T (x : GArr) : Prop := GInt.T x.a0 ∧ GInt.T x.a1 ∧ GInt.T x.a2 ∧ GInt.T x.a3 ∧ True
theorem GArr.ones (x : GArr) : (GArr.C x).all AV.one = true := by simp [GArr.C, one_bool, one_int, one_str, slA_one]
def GNum.T (x : GNum) : Prop := GArr.T x.c ∧ GInt.T x.d ∧ True
theorem GNum.ones (x : GNum) : (GNum.C x).all AV.one = true := by simp [GNum.C, one_bool, one_int, one_str, slA_one]
def GVec.T (x : GVec) : Prop := GNum.T x.x ∧ GNum.T x.y ∧ GNum.T x.z ∧ True
theorem GVec.ones (x : GVec) : (GVec.C x).all AV.one = true := by simp [GVec.C, one_bool, one_int, one_str, slA_one]
def GRef.T (x : GRef) : Prop := x.tier.length ≤ reachBytes ∧ (Lit.int .i64 x.index).wf = true ∧ True
theorem GRef.ones (x : GRef) : (GRef.C x).all AV.one = true := by simp [GRef.C, one_bool, one_int, one_str, slA_one]
def GFix.T (x : GFix) : Prop := (Lit.int .i64 x.kind).wf = true ∧ GNum.T x.depth ∧ GVec.T x.point ∧ ((∀ y ∈ lst x.refs, GRef.T y) ∧ (lst x.refs).length ≤ reachBytes) ∧ True
theorem GFix.ones (x : GFix) : (GFix.C x).all AV.one = true := by simp [GFix.C, one_bool, one_int, one_str, slA_one]
def GTier.T (x : GTier) : Prop := x.name.length ≤ reachBytes ∧ (Lit.int .i64 x.h).wf = true ∧ (Lit.int .i64 x.v).wf = true ∧ ((∀ y ∈ lst x.indices, (Lit.int .i64 y).wf = true) ∧ (lst x.indices).length ≤ reachBytes) ∧ GFix.T x.fix ∧ True
theorem GTier.ones (x : GTier) : (GTier.C x).all AV.one = true := by simp [GTier.C, one_bool, one_int, one_str, slA_one]
def GDesign.T (x : GDesign) : Prop := x.name.length ≤ reachBytes ∧ (Lit.int .i64 x.order).wf = true ∧ True ∧ ((∀ y ∈ lst x.tiers, GTier.T y) ∧ (lst x.tiers).length ≤ reachBytes) ∧ True
theorem GDesign.ones (x : GDesign) : (GDesign.C x).all AV.one = true := by simp [GDesign.C, one_bool, one_int, one_str, slA_one]
def GSetting.T (x : GSetting) : Prop := (Lit.int .i64 x.h).wf = true ∧ (Lit.int .i64 x.v).wf = true ∧ (Lit.int .i64 x.index).wf = true ∧ True
theorem GSetting.ones (x : GSetting) : (GSetting.C x).all AV.one = true := by simp [GSetting.C, one_bool, one_int, one_str, slA_one]
def GFacet.T (x : GFacet) : Prop := x.tier.length ≤ reachBytes ∧ GSetting.T x.pos ∧ GNum.T x.depth ∧ True
theorem GFacet.ones (x : GFacet) : (GFacet.C x).all AV.one = true := by simp [GFacet.C, one_bool, one_int, one_str, slA_one]
end Go.Proofs.YteaopgkajbfkeaaGreatDoor
