/- Structures of the api as they lie in memory, printed by a program of this session's own: their cells, and the laws by which a walk reads and writes them. Nothing is claimed of the program here. -/
import Derived.Test.YteaopgkajbfkeaaGreatDoorWAG
set_option linter.unusedSimpArgs false
set_option linter.unusedVariables false
namespace Go.Proofs.YteaopgkajbfkeaaGreatDoor
open Go

def i64A (n : Int) : AV := .int .i64 n
@[simp] theorem i64A_eq (n : Int) : i64A n = .int .i64 n := rfl

/-- An integer of any size, as it lies in memory. -/
structure GInt where
  neg : Bool
  mag : List UInt8
  deriving DecidableEq, Inhabited
def GInt.C (x : GInt) : List AV := [AV.bool x.neg, AV.str x.mag]
@[simp] theorem GInt.len (x : GInt) : (GInt.C x).length = 2 := rfl
@[simp] theorem GInt.q_neg (x : GInt) : (GInt.C x)[0]? = some (AV.bool x.neg) := rfl
@[simp] theorem GInt.g_neg (x : GInt) (h : 0 < (GInt.C x).length) : (GInt.C x)[0] = AV.bool x.neg := rfl
@[simp] theorem GInt.s_neg (x : GInt) (v : Bool) : splice (GInt.C x) 0 [AV.bool v] = GInt.C { x with neg := v } := rfl
@[simp] theorem GInt.q_mag (x : GInt) : (GInt.C x)[1]? = some (AV.str x.mag) := rfl
@[simp] theorem GInt.g_mag (x : GInt) (h : 1 < (GInt.C x).length) : (GInt.C x)[1] = AV.str x.mag := rfl
@[simp] theorem GInt.s_mag (x : GInt) (v : List UInt8) : splice (GInt.C x) 1 [AV.str v] = GInt.C { x with mag := v } := rfl
@[simp] theorem GInt.p (x : GInt) : partOf true 2 0 (.agg (GInt.C x)) = some (.agg (GInt.C x)) := rfl
@[simp] theorem GInt.s (x v : GInt) : splice (GInt.C x) 0 (GInt.C v) = GInt.C v := rfl
@[simp] theorem GInt.untip (x : GInt) : (GInt.C x).map AV.untip = GInt.C x := by simp [GInt.C]
@[simp] theorem GInt.fzN (x : GInt) {h : Store} {d : Nat} : freezeN h (d + 2) (.agg (GInt.C x)) = some (.agg (GInt.C x)) := by
  show ((GInt.C x).mapM (freezeN h (d + 1))).map AV.agg = _
  rw [mapM_id]
  · rfl
  · intro c hc
    simp only [GInt.C, List.mem_cons, List.not_mem_nil, or_false] at hc
    rcases hc with rfl | rfl <;> simp
@[simp] theorem GInt.fz (x : GInt) {h : Store} : freeze h (.agg (GInt.C x)) = some (.agg (GInt.C x)) := GInt.fzN x
@[simp] theorem GInt.rN (x : GInt) {h : Store} {d : Nat} : reachN h (d + 2) (.agg (GInt.C x)) = [] := by
  show (GInt.C x).flatMap (reachN h (d + 1)) = []
  simp [GInt.C]
@[simp] theorem GInt.clN (x : GInt) {d : Nat} : AV.closedN (d + 2) (.agg (GInt.C x)) = true := by
  show (GInt.C x).all (AV.closedN (d + 1)) = true
  simp [GInt.C]
@[simp] theorem GInt.cl (x : GInt) : (AV.agg (GInt.C x)).closed = true := GInt.clN x
@[simp] theorem GInt.low (x : GInt) {m : Nat} : (AV.agg (GInt.C x)).lower m = true := by
  show (GInt.C x).all (AV.lowerN m 3) = true
  simp [GInt.C, AV.lowerN]
@[simp] theorem GInt.flat (x : GInt) : (AV.agg (GInt.C x)).flat = true := rfl
@[simp] theorem GInt.eqc (x y : GInt) : eqCells [.tb, .ts] (GInt.C x) (GInt.C y) = some (decide (x = y)) := by
  rcases x with ⟨xneg, xmag⟩
  rcases y with ⟨yneg, ymag⟩
  simp [GInt.C, Bool.beq_eq_decide_eq]
  try (rw [Bool.eq_iff_iff]; simp [and_assoc])

/-- Four integers. -/
structure GArr where
  a0 : GInt
  a1 : GInt
  a2 : GInt
  a3 : GInt
  deriving DecidableEq, Inhabited
def GArr.C (x : GArr) : List AV := [AV.bool x.a0.neg, AV.str x.a0.mag, AV.bool x.a1.neg, AV.str x.a1.mag, AV.bool x.a2.neg, AV.str x.a2.mag, AV.bool x.a3.neg, AV.str x.a3.mag]
@[simp] theorem GArr.len (x : GArr) : (GArr.C x).length = 8 := rfl
@[simp] theorem GArr.p_a0 (x : GArr) : partOf true 2 0 (.agg (GArr.C x)) = some (.agg (GInt.C x.a0)) := rfl
@[simp] theorem GArr.s_a0 (x : GArr) (v : GInt) : splice (GArr.C x) 0 (GInt.C v) = GArr.C { x with a0 := v } := rfl
@[simp] theorem GArr.q_a0_neg (x : GArr) : (GArr.C x)[0]? = some (AV.bool x.a0.neg) := rfl
@[simp] theorem GArr.g_a0_neg (x : GArr) (h : 0 < (GArr.C x).length) : (GArr.C x)[0] = AV.bool x.a0.neg := rfl
@[simp] theorem GArr.s_a0_neg (x : GArr) (v : Bool) : splice (GArr.C x) 0 [AV.bool v] = GArr.C { x with a0 := { x.a0 with neg := v } } := rfl
@[simp] theorem GArr.q_a0_mag (x : GArr) : (GArr.C x)[1]? = some (AV.str x.a0.mag) := rfl
@[simp] theorem GArr.g_a0_mag (x : GArr) (h : 1 < (GArr.C x).length) : (GArr.C x)[1] = AV.str x.a0.mag := rfl
@[simp] theorem GArr.s_a0_mag (x : GArr) (v : List UInt8) : splice (GArr.C x) 1 [AV.str v] = GArr.C { x with a0 := { x.a0 with mag := v } } := rfl
@[simp] theorem GArr.p_a1 (x : GArr) : partOf true 2 2 (.agg (GArr.C x)) = some (.agg (GInt.C x.a1)) := rfl
@[simp] theorem GArr.s_a1 (x : GArr) (v : GInt) : splice (GArr.C x) 2 (GInt.C v) = GArr.C { x with a1 := v } := rfl
@[simp] theorem GArr.q_a1_neg (x : GArr) : (GArr.C x)[2]? = some (AV.bool x.a1.neg) := rfl
@[simp] theorem GArr.g_a1_neg (x : GArr) (h : 2 < (GArr.C x).length) : (GArr.C x)[2] = AV.bool x.a1.neg := rfl
@[simp] theorem GArr.s_a1_neg (x : GArr) (v : Bool) : splice (GArr.C x) 2 [AV.bool v] = GArr.C { x with a1 := { x.a1 with neg := v } } := rfl
@[simp] theorem GArr.q_a1_mag (x : GArr) : (GArr.C x)[3]? = some (AV.str x.a1.mag) := rfl
@[simp] theorem GArr.g_a1_mag (x : GArr) (h : 3 < (GArr.C x).length) : (GArr.C x)[3] = AV.str x.a1.mag := rfl
@[simp] theorem GArr.s_a1_mag (x : GArr) (v : List UInt8) : splice (GArr.C x) 3 [AV.str v] = GArr.C { x with a1 := { x.a1 with mag := v } } := rfl
@[simp] theorem GArr.p_a2 (x : GArr) : partOf true 2 4 (.agg (GArr.C x)) = some (.agg (GInt.C x.a2)) := rfl
@[simp] theorem GArr.s_a2 (x : GArr) (v : GInt) : splice (GArr.C x) 4 (GInt.C v) = GArr.C { x with a2 := v } := rfl
@[simp] theorem GArr.q_a2_neg (x : GArr) : (GArr.C x)[4]? = some (AV.bool x.a2.neg) := rfl
@[simp] theorem GArr.g_a2_neg (x : GArr) (h : 4 < (GArr.C x).length) : (GArr.C x)[4] = AV.bool x.a2.neg := rfl
@[simp] theorem GArr.s_a2_neg (x : GArr) (v : Bool) : splice (GArr.C x) 4 [AV.bool v] = GArr.C { x with a2 := { x.a2 with neg := v } } := rfl
@[simp] theorem GArr.q_a2_mag (x : GArr) : (GArr.C x)[5]? = some (AV.str x.a2.mag) := rfl
@[simp] theorem GArr.g_a2_mag (x : GArr) (h : 5 < (GArr.C x).length) : (GArr.C x)[5] = AV.str x.a2.mag := rfl
@[simp] theorem GArr.s_a2_mag (x : GArr) (v : List UInt8) : splice (GArr.C x) 5 [AV.str v] = GArr.C { x with a2 := { x.a2 with mag := v } } := rfl
@[simp] theorem GArr.p_a3 (x : GArr) : partOf true 2 6 (.agg (GArr.C x)) = some (.agg (GInt.C x.a3)) := rfl
@[simp] theorem GArr.s_a3 (x : GArr) (v : GInt) : splice (GArr.C x) 6 (GInt.C v) = GArr.C { x with a3 := v } := rfl
@[simp] theorem GArr.q_a3_neg (x : GArr) : (GArr.C x)[6]? = some (AV.bool x.a3.neg) := rfl
@[simp] theorem GArr.g_a3_neg (x : GArr) (h : 6 < (GArr.C x).length) : (GArr.C x)[6] = AV.bool x.a3.neg := rfl
@[simp] theorem GArr.s_a3_neg (x : GArr) (v : Bool) : splice (GArr.C x) 6 [AV.bool v] = GArr.C { x with a3 := { x.a3 with neg := v } } := rfl
@[simp] theorem GArr.q_a3_mag (x : GArr) : (GArr.C x)[7]? = some (AV.str x.a3.mag) := rfl
@[simp] theorem GArr.g_a3_mag (x : GArr) (h : 7 < (GArr.C x).length) : (GArr.C x)[7] = AV.str x.a3.mag := rfl
@[simp] theorem GArr.s_a3_mag (x : GArr) (v : List UInt8) : splice (GArr.C x) 7 [AV.str v] = GArr.C { x with a3 := { x.a3 with mag := v } } := rfl
@[simp] theorem GArr.p (x : GArr) : partOf true 8 0 (.agg (GArr.C x)) = some (.agg (GArr.C x)) := rfl
@[simp] theorem GArr.s (x v : GArr) : splice (GArr.C x) 0 (GArr.C v) = GArr.C v := rfl
@[simp] theorem GArr.untip (x : GArr) : (GArr.C x).map AV.untip = GArr.C x := by simp [GArr.C]
@[simp] theorem GArr.fzN (x : GArr) {h : Store} {d : Nat} : freezeN h (d + 2) (.agg (GArr.C x)) = some (.agg (GArr.C x)) := by
  show ((GArr.C x).mapM (freezeN h (d + 1))).map AV.agg = _
  rw [mapM_id]
  · rfl
  · intro c hc
    simp only [GArr.C, List.mem_cons, List.not_mem_nil, or_false] at hc
    rcases hc with rfl | rfl | rfl | rfl | rfl | rfl | rfl | rfl <;> simp
@[simp] theorem GArr.fz (x : GArr) {h : Store} : freeze h (.agg (GArr.C x)) = some (.agg (GArr.C x)) := GArr.fzN x
@[simp] theorem GArr.rN (x : GArr) {h : Store} {d : Nat} : reachN h (d + 2) (.agg (GArr.C x)) = [] := by
  show (GArr.C x).flatMap (reachN h (d + 1)) = []
  simp [GArr.C]
@[simp] theorem GArr.clN (x : GArr) {d : Nat} : AV.closedN (d + 2) (.agg (GArr.C x)) = true := by
  show (GArr.C x).all (AV.closedN (d + 1)) = true
  simp [GArr.C]
@[simp] theorem GArr.cl (x : GArr) : (AV.agg (GArr.C x)).closed = true := GArr.clN x
@[simp] theorem GArr.low (x : GArr) {m : Nat} : (AV.agg (GArr.C x)).lower m = true := by
  show (GArr.C x).all (AV.lowerN m 3) = true
  simp [GArr.C, AV.lowerN]
@[simp] theorem GArr.flat (x : GArr) : (AV.agg (GArr.C x)).flat = true := rfl
@[simp] theorem GArr.eqc (x y : GArr) : eqCells [.tb, .ts, .tb, .ts, .tb, .ts, .tb, .ts] (GArr.C x) (GArr.C y) = some (decide (x = y)) := by
  rcases x with ⟨⟨xa0neg, xa0mag⟩, ⟨xa1neg, xa1mag⟩, ⟨xa2neg, xa2mag⟩, ⟨xa3neg, xa3mag⟩⟩
  rcases y with ⟨⟨ya0neg, ya0mag⟩, ⟨ya1neg, ya1mag⟩, ⟨ya2neg, ya2mag⟩, ⟨ya3neg, ya3mag⟩⟩
  simp [GArr.C, Bool.beq_eq_decide_eq]
  try (rw [Bool.eq_iff_iff]; simp [and_assoc])

/-- An exact number. -/
structure GNum where
  c : GArr
  d : GInt
  deriving DecidableEq, Inhabited
def GNum.C (x : GNum) : List AV := [AV.bool x.c.a0.neg, AV.str x.c.a0.mag, AV.bool x.c.a1.neg, AV.str x.c.a1.mag, AV.bool x.c.a2.neg, AV.str x.c.a2.mag, AV.bool x.c.a3.neg, AV.str x.c.a3.mag, AV.bool x.d.neg, AV.str x.d.mag]
@[simp] theorem GNum.len (x : GNum) : (GNum.C x).length = 10 := rfl
@[simp] theorem GNum.p_c (x : GNum) : partOf true 8 0 (.agg (GNum.C x)) = some (.agg (GArr.C x.c)) := rfl
@[simp] theorem GNum.s_c (x : GNum) (v : GArr) : splice (GNum.C x) 0 (GArr.C v) = GNum.C { x with c := v } := rfl
@[simp] theorem GNum.p_c_a0 (x : GNum) : partOf true 2 0 (.agg (GNum.C x)) = some (.agg (GInt.C x.c.a0)) := rfl
@[simp] theorem GNum.s_c_a0 (x : GNum) (v : GInt) : splice (GNum.C x) 0 (GInt.C v) = GNum.C { x with c := { x.c with a0 := v } } := rfl
@[simp] theorem GNum.q_c_a0_neg (x : GNum) : (GNum.C x)[0]? = some (AV.bool x.c.a0.neg) := rfl
@[simp] theorem GNum.g_c_a0_neg (x : GNum) (h : 0 < (GNum.C x).length) : (GNum.C x)[0] = AV.bool x.c.a0.neg := rfl
@[simp] theorem GNum.s_c_a0_neg (x : GNum) (v : Bool) : splice (GNum.C x) 0 [AV.bool v] = GNum.C { x with c := { x.c with a0 := { x.c.a0 with neg := v } } } := rfl
@[simp] theorem GNum.q_c_a0_mag (x : GNum) : (GNum.C x)[1]? = some (AV.str x.c.a0.mag) := rfl
@[simp] theorem GNum.g_c_a0_mag (x : GNum) (h : 1 < (GNum.C x).length) : (GNum.C x)[1] = AV.str x.c.a0.mag := rfl
@[simp] theorem GNum.s_c_a0_mag (x : GNum) (v : List UInt8) : splice (GNum.C x) 1 [AV.str v] = GNum.C { x with c := { x.c with a0 := { x.c.a0 with mag := v } } } := rfl
@[simp] theorem GNum.p_c_a1 (x : GNum) : partOf true 2 2 (.agg (GNum.C x)) = some (.agg (GInt.C x.c.a1)) := rfl
@[simp] theorem GNum.s_c_a1 (x : GNum) (v : GInt) : splice (GNum.C x) 2 (GInt.C v) = GNum.C { x with c := { x.c with a1 := v } } := rfl
@[simp] theorem GNum.q_c_a1_neg (x : GNum) : (GNum.C x)[2]? = some (AV.bool x.c.a1.neg) := rfl
@[simp] theorem GNum.g_c_a1_neg (x : GNum) (h : 2 < (GNum.C x).length) : (GNum.C x)[2] = AV.bool x.c.a1.neg := rfl
@[simp] theorem GNum.s_c_a1_neg (x : GNum) (v : Bool) : splice (GNum.C x) 2 [AV.bool v] = GNum.C { x with c := { x.c with a1 := { x.c.a1 with neg := v } } } := rfl
@[simp] theorem GNum.q_c_a1_mag (x : GNum) : (GNum.C x)[3]? = some (AV.str x.c.a1.mag) := rfl
@[simp] theorem GNum.g_c_a1_mag (x : GNum) (h : 3 < (GNum.C x).length) : (GNum.C x)[3] = AV.str x.c.a1.mag := rfl
@[simp] theorem GNum.s_c_a1_mag (x : GNum) (v : List UInt8) : splice (GNum.C x) 3 [AV.str v] = GNum.C { x with c := { x.c with a1 := { x.c.a1 with mag := v } } } := rfl
@[simp] theorem GNum.p_c_a2 (x : GNum) : partOf true 2 4 (.agg (GNum.C x)) = some (.agg (GInt.C x.c.a2)) := rfl
@[simp] theorem GNum.s_c_a2 (x : GNum) (v : GInt) : splice (GNum.C x) 4 (GInt.C v) = GNum.C { x with c := { x.c with a2 := v } } := rfl
@[simp] theorem GNum.q_c_a2_neg (x : GNum) : (GNum.C x)[4]? = some (AV.bool x.c.a2.neg) := rfl
@[simp] theorem GNum.g_c_a2_neg (x : GNum) (h : 4 < (GNum.C x).length) : (GNum.C x)[4] = AV.bool x.c.a2.neg := rfl
@[simp] theorem GNum.s_c_a2_neg (x : GNum) (v : Bool) : splice (GNum.C x) 4 [AV.bool v] = GNum.C { x with c := { x.c with a2 := { x.c.a2 with neg := v } } } := rfl
@[simp] theorem GNum.q_c_a2_mag (x : GNum) : (GNum.C x)[5]? = some (AV.str x.c.a2.mag) := rfl
@[simp] theorem GNum.g_c_a2_mag (x : GNum) (h : 5 < (GNum.C x).length) : (GNum.C x)[5] = AV.str x.c.a2.mag := rfl
@[simp] theorem GNum.s_c_a2_mag (x : GNum) (v : List UInt8) : splice (GNum.C x) 5 [AV.str v] = GNum.C { x with c := { x.c with a2 := { x.c.a2 with mag := v } } } := rfl
@[simp] theorem GNum.p_c_a3 (x : GNum) : partOf true 2 6 (.agg (GNum.C x)) = some (.agg (GInt.C x.c.a3)) := rfl
@[simp] theorem GNum.s_c_a3 (x : GNum) (v : GInt) : splice (GNum.C x) 6 (GInt.C v) = GNum.C { x with c := { x.c with a3 := v } } := rfl
@[simp] theorem GNum.q_c_a3_neg (x : GNum) : (GNum.C x)[6]? = some (AV.bool x.c.a3.neg) := rfl
@[simp] theorem GNum.g_c_a3_neg (x : GNum) (h : 6 < (GNum.C x).length) : (GNum.C x)[6] = AV.bool x.c.a3.neg := rfl
@[simp] theorem GNum.s_c_a3_neg (x : GNum) (v : Bool) : splice (GNum.C x) 6 [AV.bool v] = GNum.C { x with c := { x.c with a3 := { x.c.a3 with neg := v } } } := rfl
@[simp] theorem GNum.q_c_a3_mag (x : GNum) : (GNum.C x)[7]? = some (AV.str x.c.a3.mag) := rfl
@[simp] theorem GNum.g_c_a3_mag (x : GNum) (h : 7 < (GNum.C x).length) : (GNum.C x)[7] = AV.str x.c.a3.mag := rfl
@[simp] theorem GNum.s_c_a3_mag (x : GNum) (v : List UInt8) : splice (GNum.C x) 7 [AV.str v] = GNum.C { x with c := { x.c with a3 := { x.c.a3 with mag := v } } } := rfl
@[simp] theorem GNum.p_d (x : GNum) : partOf true 2 8 (.agg (GNum.C x)) = some (.agg (GInt.C x.d)) := rfl
@[simp] theorem GNum.s_d (x : GNum) (v : GInt) : splice (GNum.C x) 8 (GInt.C v) = GNum.C { x with d := v } := rfl
@[simp] theorem GNum.q_d_neg (x : GNum) : (GNum.C x)[8]? = some (AV.bool x.d.neg) := rfl
@[simp] theorem GNum.g_d_neg (x : GNum) (h : 8 < (GNum.C x).length) : (GNum.C x)[8] = AV.bool x.d.neg := rfl
@[simp] theorem GNum.s_d_neg (x : GNum) (v : Bool) : splice (GNum.C x) 8 [AV.bool v] = GNum.C { x with d := { x.d with neg := v } } := rfl
@[simp] theorem GNum.q_d_mag (x : GNum) : (GNum.C x)[9]? = some (AV.str x.d.mag) := rfl
@[simp] theorem GNum.g_d_mag (x : GNum) (h : 9 < (GNum.C x).length) : (GNum.C x)[9] = AV.str x.d.mag := rfl
@[simp] theorem GNum.s_d_mag (x : GNum) (v : List UInt8) : splice (GNum.C x) 9 [AV.str v] = GNum.C { x with d := { x.d with mag := v } } := rfl
@[simp] theorem GNum.p (x : GNum) : partOf true 10 0 (.agg (GNum.C x)) = some (.agg (GNum.C x)) := rfl
@[simp] theorem GNum.s (x v : GNum) : splice (GNum.C x) 0 (GNum.C v) = GNum.C v := rfl
@[simp] theorem GNum.untip (x : GNum) : (GNum.C x).map AV.untip = GNum.C x := by simp [GNum.C]
@[simp] theorem GNum.fzN (x : GNum) {h : Store} {d : Nat} : freezeN h (d + 2) (.agg (GNum.C x)) = some (.agg (GNum.C x)) := by
  show ((GNum.C x).mapM (freezeN h (d + 1))).map AV.agg = _
  rw [mapM_id]
  · rfl
  · intro c hc
    simp only [GNum.C, List.mem_cons, List.not_mem_nil, or_false] at hc
    rcases hc with rfl | rfl | rfl | rfl | rfl | rfl | rfl | rfl | rfl | rfl <;> simp
@[simp] theorem GNum.fz (x : GNum) {h : Store} : freeze h (.agg (GNum.C x)) = some (.agg (GNum.C x)) := GNum.fzN x
@[simp] theorem GNum.rN (x : GNum) {h : Store} {d : Nat} : reachN h (d + 2) (.agg (GNum.C x)) = [] := by
  show (GNum.C x).flatMap (reachN h (d + 1)) = []
  simp [GNum.C]
@[simp] theorem GNum.clN (x : GNum) {d : Nat} : AV.closedN (d + 2) (.agg (GNum.C x)) = true := by
  show (GNum.C x).all (AV.closedN (d + 1)) = true
  simp [GNum.C]
@[simp] theorem GNum.cl (x : GNum) : (AV.agg (GNum.C x)).closed = true := GNum.clN x
@[simp] theorem GNum.low (x : GNum) {m : Nat} : (AV.agg (GNum.C x)).lower m = true := by
  show (GNum.C x).all (AV.lowerN m 3) = true
  simp [GNum.C, AV.lowerN]
@[simp] theorem GNum.flat (x : GNum) : (AV.agg (GNum.C x)).flat = true := rfl
@[simp] theorem GNum.eqc (x y : GNum) : eqCells [.tb, .ts, .tb, .ts, .tb, .ts, .tb, .ts, .tb, .ts] (GNum.C x) (GNum.C y) = some (decide (x = y)) := by
  rcases x with ⟨⟨⟨xca0neg, xca0mag⟩, ⟨xca1neg, xca1mag⟩, ⟨xca2neg, xca2mag⟩, ⟨xca3neg, xca3mag⟩⟩, ⟨xdneg, xdmag⟩⟩
  rcases y with ⟨⟨⟨yca0neg, yca0mag⟩, ⟨yca1neg, yca1mag⟩, ⟨yca2neg, yca2mag⟩, ⟨yca3neg, yca3mag⟩⟩, ⟨ydneg, ydmag⟩⟩
  simp [GNum.C, Bool.beq_eq_decide_eq]
  try (rw [Bool.eq_iff_iff]; simp [and_assoc])

/-- A vector. -/
structure GVec where
  x : GNum
  y : GNum
  z : GNum
  deriving DecidableEq, Inhabited
def GVec.C (x : GVec) : List AV := [AV.bool x.x.c.a0.neg, AV.str x.x.c.a0.mag, AV.bool x.x.c.a1.neg, AV.str x.x.c.a1.mag, AV.bool x.x.c.a2.neg, AV.str x.x.c.a2.mag, AV.bool x.x.c.a3.neg, AV.str x.x.c.a3.mag, AV.bool x.x.d.neg, AV.str x.x.d.mag, AV.bool x.y.c.a0.neg, AV.str x.y.c.a0.mag, AV.bool x.y.c.a1.neg, AV.str x.y.c.a1.mag, AV.bool x.y.c.a2.neg, AV.str x.y.c.a2.mag, AV.bool x.y.c.a3.neg, AV.str x.y.c.a3.mag, AV.bool x.y.d.neg, AV.str x.y.d.mag, AV.bool x.z.c.a0.neg, AV.str x.z.c.a0.mag, AV.bool x.z.c.a1.neg, AV.str x.z.c.a1.mag, AV.bool x.z.c.a2.neg, AV.str x.z.c.a2.mag, AV.bool x.z.c.a3.neg, AV.str x.z.c.a3.mag, AV.bool x.z.d.neg, AV.str x.z.d.mag]
@[simp] theorem GVec.len (x : GVec) : (GVec.C x).length = 30 := rfl
@[simp] theorem GVec.p_x (x : GVec) : partOf true 10 0 (.agg (GVec.C x)) = some (.agg (GNum.C x.x)) := rfl
@[simp] theorem GVec.s_x (x : GVec) (v : GNum) : splice (GVec.C x) 0 (GNum.C v) = GVec.C { x with x := v } := rfl
@[simp] theorem GVec.p_x_c (x : GVec) : partOf true 8 0 (.agg (GVec.C x)) = some (.agg (GArr.C x.x.c)) := rfl
@[simp] theorem GVec.s_x_c (x : GVec) (v : GArr) : splice (GVec.C x) 0 (GArr.C v) = GVec.C { x with x := { x.x with c := v } } := rfl
@[simp] theorem GVec.p_x_c_a0 (x : GVec) : partOf true 2 0 (.agg (GVec.C x)) = some (.agg (GInt.C x.x.c.a0)) := rfl
@[simp] theorem GVec.s_x_c_a0 (x : GVec) (v : GInt) : splice (GVec.C x) 0 (GInt.C v) = GVec.C { x with x := { x.x with c := { x.x.c with a0 := v } } } := rfl
@[simp] theorem GVec.q_x_c_a0_neg (x : GVec) : (GVec.C x)[0]? = some (AV.bool x.x.c.a0.neg) := rfl
@[simp] theorem GVec.g_x_c_a0_neg (x : GVec) (h : 0 < (GVec.C x).length) : (GVec.C x)[0] = AV.bool x.x.c.a0.neg := rfl
@[simp] theorem GVec.s_x_c_a0_neg (x : GVec) (v : Bool) : splice (GVec.C x) 0 [AV.bool v] = GVec.C { x with x := { x.x with c := { x.x.c with a0 := { x.x.c.a0 with neg := v } } } } := rfl
@[simp] theorem GVec.q_x_c_a0_mag (x : GVec) : (GVec.C x)[1]? = some (AV.str x.x.c.a0.mag) := rfl
@[simp] theorem GVec.g_x_c_a0_mag (x : GVec) (h : 1 < (GVec.C x).length) : (GVec.C x)[1] = AV.str x.x.c.a0.mag := rfl
@[simp] theorem GVec.s_x_c_a0_mag (x : GVec) (v : List UInt8) : splice (GVec.C x) 1 [AV.str v] = GVec.C { x with x := { x.x with c := { x.x.c with a0 := { x.x.c.a0 with mag := v } } } } := rfl
@[simp] theorem GVec.p_x_c_a1 (x : GVec) : partOf true 2 2 (.agg (GVec.C x)) = some (.agg (GInt.C x.x.c.a1)) := rfl
@[simp] theorem GVec.s_x_c_a1 (x : GVec) (v : GInt) : splice (GVec.C x) 2 (GInt.C v) = GVec.C { x with x := { x.x with c := { x.x.c with a1 := v } } } := rfl
@[simp] theorem GVec.q_x_c_a1_neg (x : GVec) : (GVec.C x)[2]? = some (AV.bool x.x.c.a1.neg) := rfl
@[simp] theorem GVec.g_x_c_a1_neg (x : GVec) (h : 2 < (GVec.C x).length) : (GVec.C x)[2] = AV.bool x.x.c.a1.neg := rfl
@[simp] theorem GVec.s_x_c_a1_neg (x : GVec) (v : Bool) : splice (GVec.C x) 2 [AV.bool v] = GVec.C { x with x := { x.x with c := { x.x.c with a1 := { x.x.c.a1 with neg := v } } } } := rfl
@[simp] theorem GVec.q_x_c_a1_mag (x : GVec) : (GVec.C x)[3]? = some (AV.str x.x.c.a1.mag) := rfl
@[simp] theorem GVec.g_x_c_a1_mag (x : GVec) (h : 3 < (GVec.C x).length) : (GVec.C x)[3] = AV.str x.x.c.a1.mag := rfl
@[simp] theorem GVec.s_x_c_a1_mag (x : GVec) (v : List UInt8) : splice (GVec.C x) 3 [AV.str v] = GVec.C { x with x := { x.x with c := { x.x.c with a1 := { x.x.c.a1 with mag := v } } } } := rfl
@[simp] theorem GVec.p_x_c_a2 (x : GVec) : partOf true 2 4 (.agg (GVec.C x)) = some (.agg (GInt.C x.x.c.a2)) := rfl
@[simp] theorem GVec.s_x_c_a2 (x : GVec) (v : GInt) : splice (GVec.C x) 4 (GInt.C v) = GVec.C { x with x := { x.x with c := { x.x.c with a2 := v } } } := rfl
@[simp] theorem GVec.q_x_c_a2_neg (x : GVec) : (GVec.C x)[4]? = some (AV.bool x.x.c.a2.neg) := rfl
@[simp] theorem GVec.g_x_c_a2_neg (x : GVec) (h : 4 < (GVec.C x).length) : (GVec.C x)[4] = AV.bool x.x.c.a2.neg := rfl
@[simp] theorem GVec.s_x_c_a2_neg (x : GVec) (v : Bool) : splice (GVec.C x) 4 [AV.bool v] = GVec.C { x with x := { x.x with c := { x.x.c with a2 := { x.x.c.a2 with neg := v } } } } := rfl
@[simp] theorem GVec.q_x_c_a2_mag (x : GVec) : (GVec.C x)[5]? = some (AV.str x.x.c.a2.mag) := rfl
@[simp] theorem GVec.g_x_c_a2_mag (x : GVec) (h : 5 < (GVec.C x).length) : (GVec.C x)[5] = AV.str x.x.c.a2.mag := rfl
@[simp] theorem GVec.s_x_c_a2_mag (x : GVec) (v : List UInt8) : splice (GVec.C x) 5 [AV.str v] = GVec.C { x with x := { x.x with c := { x.x.c with a2 := { x.x.c.a2 with mag := v } } } } := rfl
@[simp] theorem GVec.p_x_c_a3 (x : GVec) : partOf true 2 6 (.agg (GVec.C x)) = some (.agg (GInt.C x.x.c.a3)) := rfl
@[simp] theorem GVec.s_x_c_a3 (x : GVec) (v : GInt) : splice (GVec.C x) 6 (GInt.C v) = GVec.C { x with x := { x.x with c := { x.x.c with a3 := v } } } := rfl
@[simp] theorem GVec.q_x_c_a3_neg (x : GVec) : (GVec.C x)[6]? = some (AV.bool x.x.c.a3.neg) := rfl
@[simp] theorem GVec.g_x_c_a3_neg (x : GVec) (h : 6 < (GVec.C x).length) : (GVec.C x)[6] = AV.bool x.x.c.a3.neg := rfl
@[simp] theorem GVec.s_x_c_a3_neg (x : GVec) (v : Bool) : splice (GVec.C x) 6 [AV.bool v] = GVec.C { x with x := { x.x with c := { x.x.c with a3 := { x.x.c.a3 with neg := v } } } } := rfl
@[simp] theorem GVec.q_x_c_a3_mag (x : GVec) : (GVec.C x)[7]? = some (AV.str x.x.c.a3.mag) := rfl
@[simp] theorem GVec.g_x_c_a3_mag (x : GVec) (h : 7 < (GVec.C x).length) : (GVec.C x)[7] = AV.str x.x.c.a3.mag := rfl
@[simp] theorem GVec.s_x_c_a3_mag (x : GVec) (v : List UInt8) : splice (GVec.C x) 7 [AV.str v] = GVec.C { x with x := { x.x with c := { x.x.c with a3 := { x.x.c.a3 with mag := v } } } } := rfl
@[simp] theorem GVec.p_x_d (x : GVec) : partOf true 2 8 (.agg (GVec.C x)) = some (.agg (GInt.C x.x.d)) := rfl
@[simp] theorem GVec.s_x_d (x : GVec) (v : GInt) : splice (GVec.C x) 8 (GInt.C v) = GVec.C { x with x := { x.x with d := v } } := rfl
@[simp] theorem GVec.q_x_d_neg (x : GVec) : (GVec.C x)[8]? = some (AV.bool x.x.d.neg) := rfl
@[simp] theorem GVec.g_x_d_neg (x : GVec) (h : 8 < (GVec.C x).length) : (GVec.C x)[8] = AV.bool x.x.d.neg := rfl
@[simp] theorem GVec.s_x_d_neg (x : GVec) (v : Bool) : splice (GVec.C x) 8 [AV.bool v] = GVec.C { x with x := { x.x with d := { x.x.d with neg := v } } } := rfl
@[simp] theorem GVec.q_x_d_mag (x : GVec) : (GVec.C x)[9]? = some (AV.str x.x.d.mag) := rfl
@[simp] theorem GVec.g_x_d_mag (x : GVec) (h : 9 < (GVec.C x).length) : (GVec.C x)[9] = AV.str x.x.d.mag := rfl
@[simp] theorem GVec.s_x_d_mag (x : GVec) (v : List UInt8) : splice (GVec.C x) 9 [AV.str v] = GVec.C { x with x := { x.x with d := { x.x.d with mag := v } } } := rfl
@[simp] theorem GVec.p_y (x : GVec) : partOf true 10 10 (.agg (GVec.C x)) = some (.agg (GNum.C x.y)) := rfl
@[simp] theorem GVec.s_y (x : GVec) (v : GNum) : splice (GVec.C x) 10 (GNum.C v) = GVec.C { x with y := v } := rfl
@[simp] theorem GVec.p_y_c (x : GVec) : partOf true 8 10 (.agg (GVec.C x)) = some (.agg (GArr.C x.y.c)) := rfl
@[simp] theorem GVec.s_y_c (x : GVec) (v : GArr) : splice (GVec.C x) 10 (GArr.C v) = GVec.C { x with y := { x.y with c := v } } := rfl
@[simp] theorem GVec.p_y_c_a0 (x : GVec) : partOf true 2 10 (.agg (GVec.C x)) = some (.agg (GInt.C x.y.c.a0)) := rfl
@[simp] theorem GVec.s_y_c_a0 (x : GVec) (v : GInt) : splice (GVec.C x) 10 (GInt.C v) = GVec.C { x with y := { x.y with c := { x.y.c with a0 := v } } } := rfl
@[simp] theorem GVec.q_y_c_a0_neg (x : GVec) : (GVec.C x)[10]? = some (AV.bool x.y.c.a0.neg) := rfl
@[simp] theorem GVec.g_y_c_a0_neg (x : GVec) (h : 10 < (GVec.C x).length) : (GVec.C x)[10] = AV.bool x.y.c.a0.neg := rfl
@[simp] theorem GVec.s_y_c_a0_neg (x : GVec) (v : Bool) : splice (GVec.C x) 10 [AV.bool v] = GVec.C { x with y := { x.y with c := { x.y.c with a0 := { x.y.c.a0 with neg := v } } } } := rfl
@[simp] theorem GVec.q_y_c_a0_mag (x : GVec) : (GVec.C x)[11]? = some (AV.str x.y.c.a0.mag) := rfl
@[simp] theorem GVec.g_y_c_a0_mag (x : GVec) (h : 11 < (GVec.C x).length) : (GVec.C x)[11] = AV.str x.y.c.a0.mag := rfl
@[simp] theorem GVec.s_y_c_a0_mag (x : GVec) (v : List UInt8) : splice (GVec.C x) 11 [AV.str v] = GVec.C { x with y := { x.y with c := { x.y.c with a0 := { x.y.c.a0 with mag := v } } } } := rfl
@[simp] theorem GVec.p_y_c_a1 (x : GVec) : partOf true 2 12 (.agg (GVec.C x)) = some (.agg (GInt.C x.y.c.a1)) := rfl
@[simp] theorem GVec.s_y_c_a1 (x : GVec) (v : GInt) : splice (GVec.C x) 12 (GInt.C v) = GVec.C { x with y := { x.y with c := { x.y.c with a1 := v } } } := rfl
@[simp] theorem GVec.q_y_c_a1_neg (x : GVec) : (GVec.C x)[12]? = some (AV.bool x.y.c.a1.neg) := rfl
@[simp] theorem GVec.g_y_c_a1_neg (x : GVec) (h : 12 < (GVec.C x).length) : (GVec.C x)[12] = AV.bool x.y.c.a1.neg := rfl
@[simp] theorem GVec.s_y_c_a1_neg (x : GVec) (v : Bool) : splice (GVec.C x) 12 [AV.bool v] = GVec.C { x with y := { x.y with c := { x.y.c with a1 := { x.y.c.a1 with neg := v } } } } := rfl
@[simp] theorem GVec.q_y_c_a1_mag (x : GVec) : (GVec.C x)[13]? = some (AV.str x.y.c.a1.mag) := rfl
@[simp] theorem GVec.g_y_c_a1_mag (x : GVec) (h : 13 < (GVec.C x).length) : (GVec.C x)[13] = AV.str x.y.c.a1.mag := rfl
@[simp] theorem GVec.s_y_c_a1_mag (x : GVec) (v : List UInt8) : splice (GVec.C x) 13 [AV.str v] = GVec.C { x with y := { x.y with c := { x.y.c with a1 := { x.y.c.a1 with mag := v } } } } := rfl
@[simp] theorem GVec.p_y_c_a2 (x : GVec) : partOf true 2 14 (.agg (GVec.C x)) = some (.agg (GInt.C x.y.c.a2)) := rfl
@[simp] theorem GVec.s_y_c_a2 (x : GVec) (v : GInt) : splice (GVec.C x) 14 (GInt.C v) = GVec.C { x with y := { x.y with c := { x.y.c with a2 := v } } } := rfl
@[simp] theorem GVec.q_y_c_a2_neg (x : GVec) : (GVec.C x)[14]? = some (AV.bool x.y.c.a2.neg) := rfl
@[simp] theorem GVec.g_y_c_a2_neg (x : GVec) (h : 14 < (GVec.C x).length) : (GVec.C x)[14] = AV.bool x.y.c.a2.neg := rfl
@[simp] theorem GVec.s_y_c_a2_neg (x : GVec) (v : Bool) : splice (GVec.C x) 14 [AV.bool v] = GVec.C { x with y := { x.y with c := { x.y.c with a2 := { x.y.c.a2 with neg := v } } } } := rfl
@[simp] theorem GVec.q_y_c_a2_mag (x : GVec) : (GVec.C x)[15]? = some (AV.str x.y.c.a2.mag) := rfl
@[simp] theorem GVec.g_y_c_a2_mag (x : GVec) (h : 15 < (GVec.C x).length) : (GVec.C x)[15] = AV.str x.y.c.a2.mag := rfl
@[simp] theorem GVec.s_y_c_a2_mag (x : GVec) (v : List UInt8) : splice (GVec.C x) 15 [AV.str v] = GVec.C { x with y := { x.y with c := { x.y.c with a2 := { x.y.c.a2 with mag := v } } } } := rfl
@[simp] theorem GVec.p_y_c_a3 (x : GVec) : partOf true 2 16 (.agg (GVec.C x)) = some (.agg (GInt.C x.y.c.a3)) := rfl
@[simp] theorem GVec.s_y_c_a3 (x : GVec) (v : GInt) : splice (GVec.C x) 16 (GInt.C v) = GVec.C { x with y := { x.y with c := { x.y.c with a3 := v } } } := rfl
@[simp] theorem GVec.q_y_c_a3_neg (x : GVec) : (GVec.C x)[16]? = some (AV.bool x.y.c.a3.neg) := rfl
@[simp] theorem GVec.g_y_c_a3_neg (x : GVec) (h : 16 < (GVec.C x).length) : (GVec.C x)[16] = AV.bool x.y.c.a3.neg := rfl
@[simp] theorem GVec.s_y_c_a3_neg (x : GVec) (v : Bool) : splice (GVec.C x) 16 [AV.bool v] = GVec.C { x with y := { x.y with c := { x.y.c with a3 := { x.y.c.a3 with neg := v } } } } := rfl
@[simp] theorem GVec.q_y_c_a3_mag (x : GVec) : (GVec.C x)[17]? = some (AV.str x.y.c.a3.mag) := rfl
@[simp] theorem GVec.g_y_c_a3_mag (x : GVec) (h : 17 < (GVec.C x).length) : (GVec.C x)[17] = AV.str x.y.c.a3.mag := rfl
@[simp] theorem GVec.s_y_c_a3_mag (x : GVec) (v : List UInt8) : splice (GVec.C x) 17 [AV.str v] = GVec.C { x with y := { x.y with c := { x.y.c with a3 := { x.y.c.a3 with mag := v } } } } := rfl
@[simp] theorem GVec.p_y_d (x : GVec) : partOf true 2 18 (.agg (GVec.C x)) = some (.agg (GInt.C x.y.d)) := rfl
@[simp] theorem GVec.s_y_d (x : GVec) (v : GInt) : splice (GVec.C x) 18 (GInt.C v) = GVec.C { x with y := { x.y with d := v } } := rfl
@[simp] theorem GVec.q_y_d_neg (x : GVec) : (GVec.C x)[18]? = some (AV.bool x.y.d.neg) := rfl
@[simp] theorem GVec.g_y_d_neg (x : GVec) (h : 18 < (GVec.C x).length) : (GVec.C x)[18] = AV.bool x.y.d.neg := rfl
@[simp] theorem GVec.s_y_d_neg (x : GVec) (v : Bool) : splice (GVec.C x) 18 [AV.bool v] = GVec.C { x with y := { x.y with d := { x.y.d with neg := v } } } := rfl
@[simp] theorem GVec.q_y_d_mag (x : GVec) : (GVec.C x)[19]? = some (AV.str x.y.d.mag) := rfl
@[simp] theorem GVec.g_y_d_mag (x : GVec) (h : 19 < (GVec.C x).length) : (GVec.C x)[19] = AV.str x.y.d.mag := rfl
@[simp] theorem GVec.s_y_d_mag (x : GVec) (v : List UInt8) : splice (GVec.C x) 19 [AV.str v] = GVec.C { x with y := { x.y with d := { x.y.d with mag := v } } } := rfl
@[simp] theorem GVec.p_z (x : GVec) : partOf true 10 20 (.agg (GVec.C x)) = some (.agg (GNum.C x.z)) := rfl
@[simp] theorem GVec.s_z (x : GVec) (v : GNum) : splice (GVec.C x) 20 (GNum.C v) = GVec.C { x with z := v } := rfl
@[simp] theorem GVec.p_z_c (x : GVec) : partOf true 8 20 (.agg (GVec.C x)) = some (.agg (GArr.C x.z.c)) := rfl
@[simp] theorem GVec.s_z_c (x : GVec) (v : GArr) : splice (GVec.C x) 20 (GArr.C v) = GVec.C { x with z := { x.z with c := v } } := rfl
@[simp] theorem GVec.p_z_c_a0 (x : GVec) : partOf true 2 20 (.agg (GVec.C x)) = some (.agg (GInt.C x.z.c.a0)) := rfl
@[simp] theorem GVec.s_z_c_a0 (x : GVec) (v : GInt) : splice (GVec.C x) 20 (GInt.C v) = GVec.C { x with z := { x.z with c := { x.z.c with a0 := v } } } := rfl
@[simp] theorem GVec.q_z_c_a0_neg (x : GVec) : (GVec.C x)[20]? = some (AV.bool x.z.c.a0.neg) := rfl
@[simp] theorem GVec.g_z_c_a0_neg (x : GVec) (h : 20 < (GVec.C x).length) : (GVec.C x)[20] = AV.bool x.z.c.a0.neg := rfl
@[simp] theorem GVec.s_z_c_a0_neg (x : GVec) (v : Bool) : splice (GVec.C x) 20 [AV.bool v] = GVec.C { x with z := { x.z with c := { x.z.c with a0 := { x.z.c.a0 with neg := v } } } } := rfl
@[simp] theorem GVec.q_z_c_a0_mag (x : GVec) : (GVec.C x)[21]? = some (AV.str x.z.c.a0.mag) := rfl
@[simp] theorem GVec.g_z_c_a0_mag (x : GVec) (h : 21 < (GVec.C x).length) : (GVec.C x)[21] = AV.str x.z.c.a0.mag := rfl
@[simp] theorem GVec.s_z_c_a0_mag (x : GVec) (v : List UInt8) : splice (GVec.C x) 21 [AV.str v] = GVec.C { x with z := { x.z with c := { x.z.c with a0 := { x.z.c.a0 with mag := v } } } } := rfl
@[simp] theorem GVec.p_z_c_a1 (x : GVec) : partOf true 2 22 (.agg (GVec.C x)) = some (.agg (GInt.C x.z.c.a1)) := rfl
@[simp] theorem GVec.s_z_c_a1 (x : GVec) (v : GInt) : splice (GVec.C x) 22 (GInt.C v) = GVec.C { x with z := { x.z with c := { x.z.c with a1 := v } } } := rfl
@[simp] theorem GVec.q_z_c_a1_neg (x : GVec) : (GVec.C x)[22]? = some (AV.bool x.z.c.a1.neg) := rfl
@[simp] theorem GVec.g_z_c_a1_neg (x : GVec) (h : 22 < (GVec.C x).length) : (GVec.C x)[22] = AV.bool x.z.c.a1.neg := rfl
@[simp] theorem GVec.s_z_c_a1_neg (x : GVec) (v : Bool) : splice (GVec.C x) 22 [AV.bool v] = GVec.C { x with z := { x.z with c := { x.z.c with a1 := { x.z.c.a1 with neg := v } } } } := rfl
@[simp] theorem GVec.q_z_c_a1_mag (x : GVec) : (GVec.C x)[23]? = some (AV.str x.z.c.a1.mag) := rfl
@[simp] theorem GVec.g_z_c_a1_mag (x : GVec) (h : 23 < (GVec.C x).length) : (GVec.C x)[23] = AV.str x.z.c.a1.mag := rfl
@[simp] theorem GVec.s_z_c_a1_mag (x : GVec) (v : List UInt8) : splice (GVec.C x) 23 [AV.str v] = GVec.C { x with z := { x.z with c := { x.z.c with a1 := { x.z.c.a1 with mag := v } } } } := rfl
@[simp] theorem GVec.p_z_c_a2 (x : GVec) : partOf true 2 24 (.agg (GVec.C x)) = some (.agg (GInt.C x.z.c.a2)) := rfl
@[simp] theorem GVec.s_z_c_a2 (x : GVec) (v : GInt) : splice (GVec.C x) 24 (GInt.C v) = GVec.C { x with z := { x.z with c := { x.z.c with a2 := v } } } := rfl
@[simp] theorem GVec.q_z_c_a2_neg (x : GVec) : (GVec.C x)[24]? = some (AV.bool x.z.c.a2.neg) := rfl
@[simp] theorem GVec.g_z_c_a2_neg (x : GVec) (h : 24 < (GVec.C x).length) : (GVec.C x)[24] = AV.bool x.z.c.a2.neg := rfl
@[simp] theorem GVec.s_z_c_a2_neg (x : GVec) (v : Bool) : splice (GVec.C x) 24 [AV.bool v] = GVec.C { x with z := { x.z with c := { x.z.c with a2 := { x.z.c.a2 with neg := v } } } } := rfl
@[simp] theorem GVec.q_z_c_a2_mag (x : GVec) : (GVec.C x)[25]? = some (AV.str x.z.c.a2.mag) := rfl
@[simp] theorem GVec.g_z_c_a2_mag (x : GVec) (h : 25 < (GVec.C x).length) : (GVec.C x)[25] = AV.str x.z.c.a2.mag := rfl
@[simp] theorem GVec.s_z_c_a2_mag (x : GVec) (v : List UInt8) : splice (GVec.C x) 25 [AV.str v] = GVec.C { x with z := { x.z with c := { x.z.c with a2 := { x.z.c.a2 with mag := v } } } } := rfl
@[simp] theorem GVec.p_z_c_a3 (x : GVec) : partOf true 2 26 (.agg (GVec.C x)) = some (.agg (GInt.C x.z.c.a3)) := rfl
@[simp] theorem GVec.s_z_c_a3 (x : GVec) (v : GInt) : splice (GVec.C x) 26 (GInt.C v) = GVec.C { x with z := { x.z with c := { x.z.c with a3 := v } } } := rfl
@[simp] theorem GVec.q_z_c_a3_neg (x : GVec) : (GVec.C x)[26]? = some (AV.bool x.z.c.a3.neg) := rfl
@[simp] theorem GVec.g_z_c_a3_neg (x : GVec) (h : 26 < (GVec.C x).length) : (GVec.C x)[26] = AV.bool x.z.c.a3.neg := rfl
@[simp] theorem GVec.s_z_c_a3_neg (x : GVec) (v : Bool) : splice (GVec.C x) 26 [AV.bool v] = GVec.C { x with z := { x.z with c := { x.z.c with a3 := { x.z.c.a3 with neg := v } } } } := rfl
@[simp] theorem GVec.q_z_c_a3_mag (x : GVec) : (GVec.C x)[27]? = some (AV.str x.z.c.a3.mag) := rfl
@[simp] theorem GVec.g_z_c_a3_mag (x : GVec) (h : 27 < (GVec.C x).length) : (GVec.C x)[27] = AV.str x.z.c.a3.mag := rfl
@[simp] theorem GVec.s_z_c_a3_mag (x : GVec) (v : List UInt8) : splice (GVec.C x) 27 [AV.str v] = GVec.C { x with z := { x.z with c := { x.z.c with a3 := { x.z.c.a3 with mag := v } } } } := rfl
@[simp] theorem GVec.p_z_d (x : GVec) : partOf true 2 28 (.agg (GVec.C x)) = some (.agg (GInt.C x.z.d)) := rfl
@[simp] theorem GVec.s_z_d (x : GVec) (v : GInt) : splice (GVec.C x) 28 (GInt.C v) = GVec.C { x with z := { x.z with d := v } } := rfl
@[simp] theorem GVec.q_z_d_neg (x : GVec) : (GVec.C x)[28]? = some (AV.bool x.z.d.neg) := rfl
@[simp] theorem GVec.g_z_d_neg (x : GVec) (h : 28 < (GVec.C x).length) : (GVec.C x)[28] = AV.bool x.z.d.neg := rfl
@[simp] theorem GVec.s_z_d_neg (x : GVec) (v : Bool) : splice (GVec.C x) 28 [AV.bool v] = GVec.C { x with z := { x.z with d := { x.z.d with neg := v } } } := rfl
@[simp] theorem GVec.q_z_d_mag (x : GVec) : (GVec.C x)[29]? = some (AV.str x.z.d.mag) := rfl
@[simp] theorem GVec.g_z_d_mag (x : GVec) (h : 29 < (GVec.C x).length) : (GVec.C x)[29] = AV.str x.z.d.mag := rfl
@[simp] theorem GVec.s_z_d_mag (x : GVec) (v : List UInt8) : splice (GVec.C x) 29 [AV.str v] = GVec.C { x with z := { x.z with d := { x.z.d with mag := v } } } := rfl
@[simp] theorem GVec.p (x : GVec) : partOf true 30 0 (.agg (GVec.C x)) = some (.agg (GVec.C x)) := rfl
@[simp] theorem GVec.s (x v : GVec) : splice (GVec.C x) 0 (GVec.C v) = GVec.C v := rfl
@[simp] theorem GVec.untip (x : GVec) : (GVec.C x).map AV.untip = GVec.C x := by simp [GVec.C]
@[simp] theorem GVec.fzN (x : GVec) {h : Store} {d : Nat} : freezeN h (d + 2) (.agg (GVec.C x)) = some (.agg (GVec.C x)) := by
  show ((GVec.C x).mapM (freezeN h (d + 1))).map AV.agg = _
  rw [mapM_id]
  · rfl
  · intro c hc
    simp only [GVec.C, List.mem_cons, List.not_mem_nil, or_false] at hc
    rcases hc with rfl | rfl | rfl | rfl | rfl | rfl | rfl | rfl | rfl | rfl | rfl | rfl | rfl | rfl | rfl | rfl | rfl | rfl | rfl | rfl | rfl | rfl | rfl | rfl | rfl | rfl | rfl | rfl | rfl | rfl <;> simp
@[simp] theorem GVec.fz (x : GVec) {h : Store} : freeze h (.agg (GVec.C x)) = some (.agg (GVec.C x)) := GVec.fzN x
@[simp] theorem GVec.rN (x : GVec) {h : Store} {d : Nat} : reachN h (d + 2) (.agg (GVec.C x)) = [] := by
  show (GVec.C x).flatMap (reachN h (d + 1)) = []
  simp [GVec.C]
@[simp] theorem GVec.clN (x : GVec) {d : Nat} : AV.closedN (d + 2) (.agg (GVec.C x)) = true := by
  show (GVec.C x).all (AV.closedN (d + 1)) = true
  simp [GVec.C]
@[simp] theorem GVec.cl (x : GVec) : (AV.agg (GVec.C x)).closed = true := GVec.clN x
@[simp] theorem GVec.low (x : GVec) {m : Nat} : (AV.agg (GVec.C x)).lower m = true := by
  show (GVec.C x).all (AV.lowerN m 3) = true
  simp [GVec.C, AV.lowerN]
@[simp] theorem GVec.flat (x : GVec) : (AV.agg (GVec.C x)).flat = true := rfl
@[simp] theorem GVec.eqc (x y : GVec) : eqCells [.tb, .ts, .tb, .ts, .tb, .ts, .tb, .ts, .tb, .ts, .tb, .ts, .tb, .ts, .tb, .ts, .tb, .ts, .tb, .ts, .tb, .ts, .tb, .ts, .tb, .ts, .tb, .ts, .tb, .ts] (GVec.C x) (GVec.C y) = some (decide (x = y)) := by
  rcases x with ⟨⟨⟨⟨xxca0neg, xxca0mag⟩, ⟨xxca1neg, xxca1mag⟩, ⟨xxca2neg, xxca2mag⟩, ⟨xxca3neg, xxca3mag⟩⟩, ⟨xxdneg, xxdmag⟩⟩, ⟨⟨⟨xyca0neg, xyca0mag⟩, ⟨xyca1neg, xyca1mag⟩, ⟨xyca2neg, xyca2mag⟩, ⟨xyca3neg, xyca3mag⟩⟩, ⟨xydneg, xydmag⟩⟩, ⟨⟨⟨xzca0neg, xzca0mag⟩, ⟨xzca1neg, xzca1mag⟩, ⟨xzca2neg, xzca2mag⟩, ⟨xzca3neg, xzca3mag⟩⟩, ⟨xzdneg, xzdmag⟩⟩⟩
  rcases y with ⟨⟨⟨⟨yxca0neg, yxca0mag⟩, ⟨yxca1neg, yxca1mag⟩, ⟨yxca2neg, yxca2mag⟩, ⟨yxca3neg, yxca3mag⟩⟩, ⟨yxdneg, yxdmag⟩⟩, ⟨⟨⟨yyca0neg, yyca0mag⟩, ⟨yyca1neg, yyca1mag⟩, ⟨yyca2neg, yyca2mag⟩, ⟨yyca3neg, yyca3mag⟩⟩, ⟨yydneg, yydmag⟩⟩, ⟨⟨⟨yzca0neg, yzca0mag⟩, ⟨yzca1neg, yzca1mag⟩, ⟨yzca2neg, yzca2mag⟩, ⟨yzca3neg, yzca3mag⟩⟩, ⟨yzdneg, yzdmag⟩⟩⟩
  simp [GVec.C, Bool.beq_eq_decide_eq]
  try (rw [Bool.eq_iff_iff]; simp [and_assoc])

/-- A reference to a facet. -/
structure GRef where
  tier : List UInt8
  index : Int
  deriving DecidableEq, Inhabited
def GRef.C (x : GRef) : List AV := [AV.str x.tier, AV.int .i64 x.index]
@[simp] theorem GRef.len (x : GRef) : (GRef.C x).length = 2 := rfl
@[simp] theorem GRef.q_tier (x : GRef) : (GRef.C x)[0]? = some (AV.str x.tier) := rfl
@[simp] theorem GRef.g_tier (x : GRef) (h : 0 < (GRef.C x).length) : (GRef.C x)[0] = AV.str x.tier := rfl
@[simp] theorem GRef.s_tier (x : GRef) (v : List UInt8) : splice (GRef.C x) 0 [AV.str v] = GRef.C { x with tier := v } := rfl
@[simp] theorem GRef.q_index (x : GRef) : (GRef.C x)[1]? = some (AV.int .i64 x.index) := rfl
@[simp] theorem GRef.g_index (x : GRef) (h : 1 < (GRef.C x).length) : (GRef.C x)[1] = AV.int .i64 x.index := rfl
@[simp] theorem GRef.s_index (x : GRef) (v : Int) : splice (GRef.C x) 1 [AV.int .i64 v] = GRef.C { x with index := v } := rfl
@[simp] theorem GRef.p (x : GRef) : partOf true 2 0 (.agg (GRef.C x)) = some (.agg (GRef.C x)) := rfl
@[simp] theorem GRef.s (x v : GRef) : splice (GRef.C x) 0 (GRef.C v) = GRef.C v := rfl
@[simp] theorem GRef.untip (x : GRef) : (GRef.C x).map AV.untip = GRef.C x := by simp [GRef.C]
@[simp] theorem GRef.fzN (x : GRef) {h : Store} {d : Nat} : freezeN h (d + 2) (.agg (GRef.C x)) = some (.agg (GRef.C x)) := by
  show ((GRef.C x).mapM (freezeN h (d + 1))).map AV.agg = _
  rw [mapM_id]
  · rfl
  · intro c hc
    simp only [GRef.C, List.mem_cons, List.not_mem_nil, or_false] at hc
    rcases hc with rfl | rfl <;> simp
@[simp] theorem GRef.fz (x : GRef) {h : Store} : freeze h (.agg (GRef.C x)) = some (.agg (GRef.C x)) := GRef.fzN x
@[simp] theorem GRef.rN (x : GRef) {h : Store} {d : Nat} : reachN h (d + 2) (.agg (GRef.C x)) = [] := by
  show (GRef.C x).flatMap (reachN h (d + 1)) = []
  simp [GRef.C]
@[simp] theorem GRef.clN (x : GRef) {d : Nat} : AV.closedN (d + 2) (.agg (GRef.C x)) = true := by
  show (GRef.C x).all (AV.closedN (d + 1)) = true
  simp [GRef.C]
@[simp] theorem GRef.cl (x : GRef) : (AV.agg (GRef.C x)).closed = true := GRef.clN x
@[simp] theorem GRef.low (x : GRef) {m : Nat} : (AV.agg (GRef.C x)).lower m = true := by
  show (GRef.C x).all (AV.lowerN m 3) = true
  simp [GRef.C, AV.lowerN]
@[simp] theorem GRef.flat (x : GRef) : (AV.agg (GRef.C x)).flat = true := rfl
@[simp] theorem GRef.eqc (x y : GRef) : eqCells [.ts, .ti] (GRef.C x) (GRef.C y) = some (decide (x = y)) := by
  rcases x with ⟨xtier, xindex⟩
  rcases y with ⟨ytier, yindex⟩
  simp [GRef.C, Bool.beq_eq_decide_eq]
  try (rw [Bool.eq_iff_iff]; simp [and_assoc])

/-- A fix. -/
structure GFix where
  kind : Int
  depth : GNum
  point : GVec
  refs : Sl GRef
  deriving DecidableEq, Inhabited
def GFix.C (x : GFix) : List AV := [AV.int .i64 x.kind, AV.bool x.depth.c.a0.neg, AV.str x.depth.c.a0.mag, AV.bool x.depth.c.a1.neg, AV.str x.depth.c.a1.mag, AV.bool x.depth.c.a2.neg, AV.str x.depth.c.a2.mag, AV.bool x.depth.c.a3.neg, AV.str x.depth.c.a3.mag, AV.bool x.depth.d.neg, AV.str x.depth.d.mag, AV.bool x.point.x.c.a0.neg, AV.str x.point.x.c.a0.mag, AV.bool x.point.x.c.a1.neg, AV.str x.point.x.c.a1.mag, AV.bool x.point.x.c.a2.neg, AV.str x.point.x.c.a2.mag, AV.bool x.point.x.c.a3.neg, AV.str x.point.x.c.a3.mag, AV.bool x.point.x.d.neg, AV.str x.point.x.d.mag, AV.bool x.point.y.c.a0.neg, AV.str x.point.y.c.a0.mag, AV.bool x.point.y.c.a1.neg, AV.str x.point.y.c.a1.mag, AV.bool x.point.y.c.a2.neg, AV.str x.point.y.c.a2.mag, AV.bool x.point.y.c.a3.neg, AV.str x.point.y.c.a3.mag, AV.bool x.point.y.d.neg, AV.str x.point.y.d.mag, AV.bool x.point.z.c.a0.neg, AV.str x.point.z.c.a0.mag, AV.bool x.point.z.c.a1.neg, AV.str x.point.z.c.a1.mag, AV.bool x.point.z.c.a2.neg, AV.str x.point.z.c.a2.mag, AV.bool x.point.z.c.a3.neg, AV.str x.point.z.c.a3.mag, AV.bool x.point.z.d.neg, AV.str x.point.z.d.mag, slA 2 (fun r => AV.agg (GRef.C r)) x.refs]
@[simp] theorem GFix.len (x : GFix) : (GFix.C x).length = 42 := rfl
@[simp] theorem GFix.q_kind (x : GFix) : (GFix.C x)[0]? = some (AV.int .i64 x.kind) := rfl
@[simp] theorem GFix.g_kind (x : GFix) (h : 0 < (GFix.C x).length) : (GFix.C x)[0] = AV.int .i64 x.kind := rfl
@[simp] theorem GFix.s_kind (x : GFix) (v : Int) : splice (GFix.C x) 0 [AV.int .i64 v] = GFix.C { x with kind := v } := rfl
@[simp] theorem GFix.p_depth (x : GFix) : partOf true 10 1 (.agg (GFix.C x)) = some (.agg (GNum.C x.depth)) := rfl
@[simp] theorem GFix.s_depth (x : GFix) (v : GNum) : splice (GFix.C x) 1 (GNum.C v) = GFix.C { x with depth := v } := rfl
@[simp] theorem GFix.p_depth_c (x : GFix) : partOf true 8 1 (.agg (GFix.C x)) = some (.agg (GArr.C x.depth.c)) := rfl
@[simp] theorem GFix.s_depth_c (x : GFix) (v : GArr) : splice (GFix.C x) 1 (GArr.C v) = GFix.C { x with depth := { x.depth with c := v } } := rfl
@[simp] theorem GFix.p_depth_c_a0 (x : GFix) : partOf true 2 1 (.agg (GFix.C x)) = some (.agg (GInt.C x.depth.c.a0)) := rfl
@[simp] theorem GFix.s_depth_c_a0 (x : GFix) (v : GInt) : splice (GFix.C x) 1 (GInt.C v) = GFix.C { x with depth := { x.depth with c := { x.depth.c with a0 := v } } } := rfl
@[simp] theorem GFix.q_depth_c_a0_neg (x : GFix) : (GFix.C x)[1]? = some (AV.bool x.depth.c.a0.neg) := rfl
@[simp] theorem GFix.g_depth_c_a0_neg (x : GFix) (h : 1 < (GFix.C x).length) : (GFix.C x)[1] = AV.bool x.depth.c.a0.neg := rfl
@[simp] theorem GFix.s_depth_c_a0_neg (x : GFix) (v : Bool) : splice (GFix.C x) 1 [AV.bool v] = GFix.C { x with depth := { x.depth with c := { x.depth.c with a0 := { x.depth.c.a0 with neg := v } } } } := rfl
@[simp] theorem GFix.q_depth_c_a0_mag (x : GFix) : (GFix.C x)[2]? = some (AV.str x.depth.c.a0.mag) := rfl
@[simp] theorem GFix.g_depth_c_a0_mag (x : GFix) (h : 2 < (GFix.C x).length) : (GFix.C x)[2] = AV.str x.depth.c.a0.mag := rfl
@[simp] theorem GFix.s_depth_c_a0_mag (x : GFix) (v : List UInt8) : splice (GFix.C x) 2 [AV.str v] = GFix.C { x with depth := { x.depth with c := { x.depth.c with a0 := { x.depth.c.a0 with mag := v } } } } := rfl
@[simp] theorem GFix.p_depth_c_a1 (x : GFix) : partOf true 2 3 (.agg (GFix.C x)) = some (.agg (GInt.C x.depth.c.a1)) := rfl
@[simp] theorem GFix.s_depth_c_a1 (x : GFix) (v : GInt) : splice (GFix.C x) 3 (GInt.C v) = GFix.C { x with depth := { x.depth with c := { x.depth.c with a1 := v } } } := rfl
@[simp] theorem GFix.q_depth_c_a1_neg (x : GFix) : (GFix.C x)[3]? = some (AV.bool x.depth.c.a1.neg) := rfl
@[simp] theorem GFix.g_depth_c_a1_neg (x : GFix) (h : 3 < (GFix.C x).length) : (GFix.C x)[3] = AV.bool x.depth.c.a1.neg := rfl
@[simp] theorem GFix.s_depth_c_a1_neg (x : GFix) (v : Bool) : splice (GFix.C x) 3 [AV.bool v] = GFix.C { x with depth := { x.depth with c := { x.depth.c with a1 := { x.depth.c.a1 with neg := v } } } } := rfl
@[simp] theorem GFix.q_depth_c_a1_mag (x : GFix) : (GFix.C x)[4]? = some (AV.str x.depth.c.a1.mag) := rfl
@[simp] theorem GFix.g_depth_c_a1_mag (x : GFix) (h : 4 < (GFix.C x).length) : (GFix.C x)[4] = AV.str x.depth.c.a1.mag := rfl
@[simp] theorem GFix.s_depth_c_a1_mag (x : GFix) (v : List UInt8) : splice (GFix.C x) 4 [AV.str v] = GFix.C { x with depth := { x.depth with c := { x.depth.c with a1 := { x.depth.c.a1 with mag := v } } } } := rfl
@[simp] theorem GFix.p_depth_c_a2 (x : GFix) : partOf true 2 5 (.agg (GFix.C x)) = some (.agg (GInt.C x.depth.c.a2)) := rfl
@[simp] theorem GFix.s_depth_c_a2 (x : GFix) (v : GInt) : splice (GFix.C x) 5 (GInt.C v) = GFix.C { x with depth := { x.depth with c := { x.depth.c with a2 := v } } } := rfl
@[simp] theorem GFix.q_depth_c_a2_neg (x : GFix) : (GFix.C x)[5]? = some (AV.bool x.depth.c.a2.neg) := rfl
@[simp] theorem GFix.g_depth_c_a2_neg (x : GFix) (h : 5 < (GFix.C x).length) : (GFix.C x)[5] = AV.bool x.depth.c.a2.neg := rfl
@[simp] theorem GFix.s_depth_c_a2_neg (x : GFix) (v : Bool) : splice (GFix.C x) 5 [AV.bool v] = GFix.C { x with depth := { x.depth with c := { x.depth.c with a2 := { x.depth.c.a2 with neg := v } } } } := rfl
@[simp] theorem GFix.q_depth_c_a2_mag (x : GFix) : (GFix.C x)[6]? = some (AV.str x.depth.c.a2.mag) := rfl
@[simp] theorem GFix.g_depth_c_a2_mag (x : GFix) (h : 6 < (GFix.C x).length) : (GFix.C x)[6] = AV.str x.depth.c.a2.mag := rfl
@[simp] theorem GFix.s_depth_c_a2_mag (x : GFix) (v : List UInt8) : splice (GFix.C x) 6 [AV.str v] = GFix.C { x with depth := { x.depth with c := { x.depth.c with a2 := { x.depth.c.a2 with mag := v } } } } := rfl
@[simp] theorem GFix.p_depth_c_a3 (x : GFix) : partOf true 2 7 (.agg (GFix.C x)) = some (.agg (GInt.C x.depth.c.a3)) := rfl
@[simp] theorem GFix.s_depth_c_a3 (x : GFix) (v : GInt) : splice (GFix.C x) 7 (GInt.C v) = GFix.C { x with depth := { x.depth with c := { x.depth.c with a3 := v } } } := rfl
@[simp] theorem GFix.q_depth_c_a3_neg (x : GFix) : (GFix.C x)[7]? = some (AV.bool x.depth.c.a3.neg) := rfl
@[simp] theorem GFix.g_depth_c_a3_neg (x : GFix) (h : 7 < (GFix.C x).length) : (GFix.C x)[7] = AV.bool x.depth.c.a3.neg := rfl
@[simp] theorem GFix.s_depth_c_a3_neg (x : GFix) (v : Bool) : splice (GFix.C x) 7 [AV.bool v] = GFix.C { x with depth := { x.depth with c := { x.depth.c with a3 := { x.depth.c.a3 with neg := v } } } } := rfl
@[simp] theorem GFix.q_depth_c_a3_mag (x : GFix) : (GFix.C x)[8]? = some (AV.str x.depth.c.a3.mag) := rfl
@[simp] theorem GFix.g_depth_c_a3_mag (x : GFix) (h : 8 < (GFix.C x).length) : (GFix.C x)[8] = AV.str x.depth.c.a3.mag := rfl
@[simp] theorem GFix.s_depth_c_a3_mag (x : GFix) (v : List UInt8) : splice (GFix.C x) 8 [AV.str v] = GFix.C { x with depth := { x.depth with c := { x.depth.c with a3 := { x.depth.c.a3 with mag := v } } } } := rfl
@[simp] theorem GFix.p_depth_d (x : GFix) : partOf true 2 9 (.agg (GFix.C x)) = some (.agg (GInt.C x.depth.d)) := rfl
@[simp] theorem GFix.s_depth_d (x : GFix) (v : GInt) : splice (GFix.C x) 9 (GInt.C v) = GFix.C { x with depth := { x.depth with d := v } } := rfl
@[simp] theorem GFix.q_depth_d_neg (x : GFix) : (GFix.C x)[9]? = some (AV.bool x.depth.d.neg) := rfl
@[simp] theorem GFix.g_depth_d_neg (x : GFix) (h : 9 < (GFix.C x).length) : (GFix.C x)[9] = AV.bool x.depth.d.neg := rfl
@[simp] theorem GFix.s_depth_d_neg (x : GFix) (v : Bool) : splice (GFix.C x) 9 [AV.bool v] = GFix.C { x with depth := { x.depth with d := { x.depth.d with neg := v } } } := rfl
@[simp] theorem GFix.q_depth_d_mag (x : GFix) : (GFix.C x)[10]? = some (AV.str x.depth.d.mag) := rfl
@[simp] theorem GFix.g_depth_d_mag (x : GFix) (h : 10 < (GFix.C x).length) : (GFix.C x)[10] = AV.str x.depth.d.mag := rfl
@[simp] theorem GFix.s_depth_d_mag (x : GFix) (v : List UInt8) : splice (GFix.C x) 10 [AV.str v] = GFix.C { x with depth := { x.depth with d := { x.depth.d with mag := v } } } := rfl
@[simp] theorem GFix.p_point (x : GFix) : partOf true 30 11 (.agg (GFix.C x)) = some (.agg (GVec.C x.point)) := rfl
@[simp] theorem GFix.s_point (x : GFix) (v : GVec) : splice (GFix.C x) 11 (GVec.C v) = GFix.C { x with point := v } := rfl
@[simp] theorem GFix.p_point_x (x : GFix) : partOf true 10 11 (.agg (GFix.C x)) = some (.agg (GNum.C x.point.x)) := rfl
@[simp] theorem GFix.s_point_x (x : GFix) (v : GNum) : splice (GFix.C x) 11 (GNum.C v) = GFix.C { x with point := { x.point with x := v } } := rfl
@[simp] theorem GFix.p_point_x_c (x : GFix) : partOf true 8 11 (.agg (GFix.C x)) = some (.agg (GArr.C x.point.x.c)) := rfl
@[simp] theorem GFix.s_point_x_c (x : GFix) (v : GArr) : splice (GFix.C x) 11 (GArr.C v) = GFix.C { x with point := { x.point with x := { x.point.x with c := v } } } := rfl
@[simp] theorem GFix.p_point_x_c_a0 (x : GFix) : partOf true 2 11 (.agg (GFix.C x)) = some (.agg (GInt.C x.point.x.c.a0)) := rfl
@[simp] theorem GFix.s_point_x_c_a0 (x : GFix) (v : GInt) : splice (GFix.C x) 11 (GInt.C v) = GFix.C { x with point := { x.point with x := { x.point.x with c := { x.point.x.c with a0 := v } } } } := rfl
@[simp] theorem GFix.q_point_x_c_a0_neg (x : GFix) : (GFix.C x)[11]? = some (AV.bool x.point.x.c.a0.neg) := rfl
@[simp] theorem GFix.g_point_x_c_a0_neg (x : GFix) (h : 11 < (GFix.C x).length) : (GFix.C x)[11] = AV.bool x.point.x.c.a0.neg := rfl
@[simp] theorem GFix.s_point_x_c_a0_neg (x : GFix) (v : Bool) : splice (GFix.C x) 11 [AV.bool v] = GFix.C { x with point := { x.point with x := { x.point.x with c := { x.point.x.c with a0 := { x.point.x.c.a0 with neg := v } } } } } := rfl
@[simp] theorem GFix.q_point_x_c_a0_mag (x : GFix) : (GFix.C x)[12]? = some (AV.str x.point.x.c.a0.mag) := rfl
@[simp] theorem GFix.g_point_x_c_a0_mag (x : GFix) (h : 12 < (GFix.C x).length) : (GFix.C x)[12] = AV.str x.point.x.c.a0.mag := rfl
@[simp] theorem GFix.s_point_x_c_a0_mag (x : GFix) (v : List UInt8) : splice (GFix.C x) 12 [AV.str v] = GFix.C { x with point := { x.point with x := { x.point.x with c := { x.point.x.c with a0 := { x.point.x.c.a0 with mag := v } } } } } := rfl
@[simp] theorem GFix.p_point_x_c_a1 (x : GFix) : partOf true 2 13 (.agg (GFix.C x)) = some (.agg (GInt.C x.point.x.c.a1)) := rfl
@[simp] theorem GFix.s_point_x_c_a1 (x : GFix) (v : GInt) : splice (GFix.C x) 13 (GInt.C v) = GFix.C { x with point := { x.point with x := { x.point.x with c := { x.point.x.c with a1 := v } } } } := rfl
@[simp] theorem GFix.q_point_x_c_a1_neg (x : GFix) : (GFix.C x)[13]? = some (AV.bool x.point.x.c.a1.neg) := rfl
@[simp] theorem GFix.g_point_x_c_a1_neg (x : GFix) (h : 13 < (GFix.C x).length) : (GFix.C x)[13] = AV.bool x.point.x.c.a1.neg := rfl
@[simp] theorem GFix.s_point_x_c_a1_neg (x : GFix) (v : Bool) : splice (GFix.C x) 13 [AV.bool v] = GFix.C { x with point := { x.point with x := { x.point.x with c := { x.point.x.c with a1 := { x.point.x.c.a1 with neg := v } } } } } := rfl
@[simp] theorem GFix.q_point_x_c_a1_mag (x : GFix) : (GFix.C x)[14]? = some (AV.str x.point.x.c.a1.mag) := rfl
@[simp] theorem GFix.g_point_x_c_a1_mag (x : GFix) (h : 14 < (GFix.C x).length) : (GFix.C x)[14] = AV.str x.point.x.c.a1.mag := rfl
@[simp] theorem GFix.s_point_x_c_a1_mag (x : GFix) (v : List UInt8) : splice (GFix.C x) 14 [AV.str v] = GFix.C { x with point := { x.point with x := { x.point.x with c := { x.point.x.c with a1 := { x.point.x.c.a1 with mag := v } } } } } := rfl
@[simp] theorem GFix.p_point_x_c_a2 (x : GFix) : partOf true 2 15 (.agg (GFix.C x)) = some (.agg (GInt.C x.point.x.c.a2)) := rfl
@[simp] theorem GFix.s_point_x_c_a2 (x : GFix) (v : GInt) : splice (GFix.C x) 15 (GInt.C v) = GFix.C { x with point := { x.point with x := { x.point.x with c := { x.point.x.c with a2 := v } } } } := rfl
@[simp] theorem GFix.q_point_x_c_a2_neg (x : GFix) : (GFix.C x)[15]? = some (AV.bool x.point.x.c.a2.neg) := rfl
@[simp] theorem GFix.g_point_x_c_a2_neg (x : GFix) (h : 15 < (GFix.C x).length) : (GFix.C x)[15] = AV.bool x.point.x.c.a2.neg := rfl
@[simp] theorem GFix.s_point_x_c_a2_neg (x : GFix) (v : Bool) : splice (GFix.C x) 15 [AV.bool v] = GFix.C { x with point := { x.point with x := { x.point.x with c := { x.point.x.c with a2 := { x.point.x.c.a2 with neg := v } } } } } := rfl
@[simp] theorem GFix.q_point_x_c_a2_mag (x : GFix) : (GFix.C x)[16]? = some (AV.str x.point.x.c.a2.mag) := rfl
@[simp] theorem GFix.g_point_x_c_a2_mag (x : GFix) (h : 16 < (GFix.C x).length) : (GFix.C x)[16] = AV.str x.point.x.c.a2.mag := rfl
@[simp] theorem GFix.s_point_x_c_a2_mag (x : GFix) (v : List UInt8) : splice (GFix.C x) 16 [AV.str v] = GFix.C { x with point := { x.point with x := { x.point.x with c := { x.point.x.c with a2 := { x.point.x.c.a2 with mag := v } } } } } := rfl
@[simp] theorem GFix.p_point_x_c_a3 (x : GFix) : partOf true 2 17 (.agg (GFix.C x)) = some (.agg (GInt.C x.point.x.c.a3)) := rfl
@[simp] theorem GFix.s_point_x_c_a3 (x : GFix) (v : GInt) : splice (GFix.C x) 17 (GInt.C v) = GFix.C { x with point := { x.point with x := { x.point.x with c := { x.point.x.c with a3 := v } } } } := rfl
@[simp] theorem GFix.q_point_x_c_a3_neg (x : GFix) : (GFix.C x)[17]? = some (AV.bool x.point.x.c.a3.neg) := rfl
@[simp] theorem GFix.g_point_x_c_a3_neg (x : GFix) (h : 17 < (GFix.C x).length) : (GFix.C x)[17] = AV.bool x.point.x.c.a3.neg := rfl
@[simp] theorem GFix.s_point_x_c_a3_neg (x : GFix) (v : Bool) : splice (GFix.C x) 17 [AV.bool v] = GFix.C { x with point := { x.point with x := { x.point.x with c := { x.point.x.c with a3 := { x.point.x.c.a3 with neg := v } } } } } := rfl
@[simp] theorem GFix.q_point_x_c_a3_mag (x : GFix) : (GFix.C x)[18]? = some (AV.str x.point.x.c.a3.mag) := rfl
@[simp] theorem GFix.g_point_x_c_a3_mag (x : GFix) (h : 18 < (GFix.C x).length) : (GFix.C x)[18] = AV.str x.point.x.c.a3.mag := rfl
@[simp] theorem GFix.s_point_x_c_a3_mag (x : GFix) (v : List UInt8) : splice (GFix.C x) 18 [AV.str v] = GFix.C { x with point := { x.point with x := { x.point.x with c := { x.point.x.c with a3 := { x.point.x.c.a3 with mag := v } } } } } := rfl
@[simp] theorem GFix.p_point_x_d (x : GFix) : partOf true 2 19 (.agg (GFix.C x)) = some (.agg (GInt.C x.point.x.d)) := rfl
@[simp] theorem GFix.s_point_x_d (x : GFix) (v : GInt) : splice (GFix.C x) 19 (GInt.C v) = GFix.C { x with point := { x.point with x := { x.point.x with d := v } } } := rfl
@[simp] theorem GFix.q_point_x_d_neg (x : GFix) : (GFix.C x)[19]? = some (AV.bool x.point.x.d.neg) := rfl
@[simp] theorem GFix.g_point_x_d_neg (x : GFix) (h : 19 < (GFix.C x).length) : (GFix.C x)[19] = AV.bool x.point.x.d.neg := rfl
@[simp] theorem GFix.s_point_x_d_neg (x : GFix) (v : Bool) : splice (GFix.C x) 19 [AV.bool v] = GFix.C { x with point := { x.point with x := { x.point.x with d := { x.point.x.d with neg := v } } } } := rfl
@[simp] theorem GFix.q_point_x_d_mag (x : GFix) : (GFix.C x)[20]? = some (AV.str x.point.x.d.mag) := rfl
@[simp] theorem GFix.g_point_x_d_mag (x : GFix) (h : 20 < (GFix.C x).length) : (GFix.C x)[20] = AV.str x.point.x.d.mag := rfl
@[simp] theorem GFix.s_point_x_d_mag (x : GFix) (v : List UInt8) : splice (GFix.C x) 20 [AV.str v] = GFix.C { x with point := { x.point with x := { x.point.x with d := { x.point.x.d with mag := v } } } } := rfl
@[simp] theorem GFix.p_point_y (x : GFix) : partOf true 10 21 (.agg (GFix.C x)) = some (.agg (GNum.C x.point.y)) := rfl
@[simp] theorem GFix.s_point_y (x : GFix) (v : GNum) : splice (GFix.C x) 21 (GNum.C v) = GFix.C { x with point := { x.point with y := v } } := rfl
@[simp] theorem GFix.p_point_y_c (x : GFix) : partOf true 8 21 (.agg (GFix.C x)) = some (.agg (GArr.C x.point.y.c)) := rfl
@[simp] theorem GFix.s_point_y_c (x : GFix) (v : GArr) : splice (GFix.C x) 21 (GArr.C v) = GFix.C { x with point := { x.point with y := { x.point.y with c := v } } } := rfl
@[simp] theorem GFix.p_point_y_c_a0 (x : GFix) : partOf true 2 21 (.agg (GFix.C x)) = some (.agg (GInt.C x.point.y.c.a0)) := rfl
@[simp] theorem GFix.s_point_y_c_a0 (x : GFix) (v : GInt) : splice (GFix.C x) 21 (GInt.C v) = GFix.C { x with point := { x.point with y := { x.point.y with c := { x.point.y.c with a0 := v } } } } := rfl
@[simp] theorem GFix.q_point_y_c_a0_neg (x : GFix) : (GFix.C x)[21]? = some (AV.bool x.point.y.c.a0.neg) := rfl
@[simp] theorem GFix.g_point_y_c_a0_neg (x : GFix) (h : 21 < (GFix.C x).length) : (GFix.C x)[21] = AV.bool x.point.y.c.a0.neg := rfl
@[simp] theorem GFix.s_point_y_c_a0_neg (x : GFix) (v : Bool) : splice (GFix.C x) 21 [AV.bool v] = GFix.C { x with point := { x.point with y := { x.point.y with c := { x.point.y.c with a0 := { x.point.y.c.a0 with neg := v } } } } } := rfl
@[simp] theorem GFix.q_point_y_c_a0_mag (x : GFix) : (GFix.C x)[22]? = some (AV.str x.point.y.c.a0.mag) := rfl
@[simp] theorem GFix.g_point_y_c_a0_mag (x : GFix) (h : 22 < (GFix.C x).length) : (GFix.C x)[22] = AV.str x.point.y.c.a0.mag := rfl
@[simp] theorem GFix.s_point_y_c_a0_mag (x : GFix) (v : List UInt8) : splice (GFix.C x) 22 [AV.str v] = GFix.C { x with point := { x.point with y := { x.point.y with c := { x.point.y.c with a0 := { x.point.y.c.a0 with mag := v } } } } } := rfl
@[simp] theorem GFix.p_point_y_c_a1 (x : GFix) : partOf true 2 23 (.agg (GFix.C x)) = some (.agg (GInt.C x.point.y.c.a1)) := rfl
@[simp] theorem GFix.s_point_y_c_a1 (x : GFix) (v : GInt) : splice (GFix.C x) 23 (GInt.C v) = GFix.C { x with point := { x.point with y := { x.point.y with c := { x.point.y.c with a1 := v } } } } := rfl
@[simp] theorem GFix.q_point_y_c_a1_neg (x : GFix) : (GFix.C x)[23]? = some (AV.bool x.point.y.c.a1.neg) := rfl
@[simp] theorem GFix.g_point_y_c_a1_neg (x : GFix) (h : 23 < (GFix.C x).length) : (GFix.C x)[23] = AV.bool x.point.y.c.a1.neg := rfl
@[simp] theorem GFix.s_point_y_c_a1_neg (x : GFix) (v : Bool) : splice (GFix.C x) 23 [AV.bool v] = GFix.C { x with point := { x.point with y := { x.point.y with c := { x.point.y.c with a1 := { x.point.y.c.a1 with neg := v } } } } } := rfl
@[simp] theorem GFix.q_point_y_c_a1_mag (x : GFix) : (GFix.C x)[24]? = some (AV.str x.point.y.c.a1.mag) := rfl
@[simp] theorem GFix.g_point_y_c_a1_mag (x : GFix) (h : 24 < (GFix.C x).length) : (GFix.C x)[24] = AV.str x.point.y.c.a1.mag := rfl
@[simp] theorem GFix.s_point_y_c_a1_mag (x : GFix) (v : List UInt8) : splice (GFix.C x) 24 [AV.str v] = GFix.C { x with point := { x.point with y := { x.point.y with c := { x.point.y.c with a1 := { x.point.y.c.a1 with mag := v } } } } } := rfl
@[simp] theorem GFix.p_point_y_c_a2 (x : GFix) : partOf true 2 25 (.agg (GFix.C x)) = some (.agg (GInt.C x.point.y.c.a2)) := rfl
@[simp] theorem GFix.s_point_y_c_a2 (x : GFix) (v : GInt) : splice (GFix.C x) 25 (GInt.C v) = GFix.C { x with point := { x.point with y := { x.point.y with c := { x.point.y.c with a2 := v } } } } := rfl
@[simp] theorem GFix.q_point_y_c_a2_neg (x : GFix) : (GFix.C x)[25]? = some (AV.bool x.point.y.c.a2.neg) := rfl
@[simp] theorem GFix.g_point_y_c_a2_neg (x : GFix) (h : 25 < (GFix.C x).length) : (GFix.C x)[25] = AV.bool x.point.y.c.a2.neg := rfl
@[simp] theorem GFix.s_point_y_c_a2_neg (x : GFix) (v : Bool) : splice (GFix.C x) 25 [AV.bool v] = GFix.C { x with point := { x.point with y := { x.point.y with c := { x.point.y.c with a2 := { x.point.y.c.a2 with neg := v } } } } } := rfl
@[simp] theorem GFix.q_point_y_c_a2_mag (x : GFix) : (GFix.C x)[26]? = some (AV.str x.point.y.c.a2.mag) := rfl
@[simp] theorem GFix.g_point_y_c_a2_mag (x : GFix) (h : 26 < (GFix.C x).length) : (GFix.C x)[26] = AV.str x.point.y.c.a2.mag := rfl
@[simp] theorem GFix.s_point_y_c_a2_mag (x : GFix) (v : List UInt8) : splice (GFix.C x) 26 [AV.str v] = GFix.C { x with point := { x.point with y := { x.point.y with c := { x.point.y.c with a2 := { x.point.y.c.a2 with mag := v } } } } } := rfl
@[simp] theorem GFix.p_point_y_c_a3 (x : GFix) : partOf true 2 27 (.agg (GFix.C x)) = some (.agg (GInt.C x.point.y.c.a3)) := rfl
@[simp] theorem GFix.s_point_y_c_a3 (x : GFix) (v : GInt) : splice (GFix.C x) 27 (GInt.C v) = GFix.C { x with point := { x.point with y := { x.point.y with c := { x.point.y.c with a3 := v } } } } := rfl
@[simp] theorem GFix.q_point_y_c_a3_neg (x : GFix) : (GFix.C x)[27]? = some (AV.bool x.point.y.c.a3.neg) := rfl
@[simp] theorem GFix.g_point_y_c_a3_neg (x : GFix) (h : 27 < (GFix.C x).length) : (GFix.C x)[27] = AV.bool x.point.y.c.a3.neg := rfl
@[simp] theorem GFix.s_point_y_c_a3_neg (x : GFix) (v : Bool) : splice (GFix.C x) 27 [AV.bool v] = GFix.C { x with point := { x.point with y := { x.point.y with c := { x.point.y.c with a3 := { x.point.y.c.a3 with neg := v } } } } } := rfl
@[simp] theorem GFix.q_point_y_c_a3_mag (x : GFix) : (GFix.C x)[28]? = some (AV.str x.point.y.c.a3.mag) := rfl
@[simp] theorem GFix.g_point_y_c_a3_mag (x : GFix) (h : 28 < (GFix.C x).length) : (GFix.C x)[28] = AV.str x.point.y.c.a3.mag := rfl
@[simp] theorem GFix.s_point_y_c_a3_mag (x : GFix) (v : List UInt8) : splice (GFix.C x) 28 [AV.str v] = GFix.C { x with point := { x.point with y := { x.point.y with c := { x.point.y.c with a3 := { x.point.y.c.a3 with mag := v } } } } } := rfl
@[simp] theorem GFix.p_point_y_d (x : GFix) : partOf true 2 29 (.agg (GFix.C x)) = some (.agg (GInt.C x.point.y.d)) := rfl
@[simp] theorem GFix.s_point_y_d (x : GFix) (v : GInt) : splice (GFix.C x) 29 (GInt.C v) = GFix.C { x with point := { x.point with y := { x.point.y with d := v } } } := rfl
@[simp] theorem GFix.q_point_y_d_neg (x : GFix) : (GFix.C x)[29]? = some (AV.bool x.point.y.d.neg) := rfl
@[simp] theorem GFix.g_point_y_d_neg (x : GFix) (h : 29 < (GFix.C x).length) : (GFix.C x)[29] = AV.bool x.point.y.d.neg := rfl
@[simp] theorem GFix.s_point_y_d_neg (x : GFix) (v : Bool) : splice (GFix.C x) 29 [AV.bool v] = GFix.C { x with point := { x.point with y := { x.point.y with d := { x.point.y.d with neg := v } } } } := rfl
@[simp] theorem GFix.q_point_y_d_mag (x : GFix) : (GFix.C x)[30]? = some (AV.str x.point.y.d.mag) := rfl
@[simp] theorem GFix.g_point_y_d_mag (x : GFix) (h : 30 < (GFix.C x).length) : (GFix.C x)[30] = AV.str x.point.y.d.mag := rfl
@[simp] theorem GFix.s_point_y_d_mag (x : GFix) (v : List UInt8) : splice (GFix.C x) 30 [AV.str v] = GFix.C { x with point := { x.point with y := { x.point.y with d := { x.point.y.d with mag := v } } } } := rfl
@[simp] theorem GFix.p_point_z (x : GFix) : partOf true 10 31 (.agg (GFix.C x)) = some (.agg (GNum.C x.point.z)) := rfl
@[simp] theorem GFix.s_point_z (x : GFix) (v : GNum) : splice (GFix.C x) 31 (GNum.C v) = GFix.C { x with point := { x.point with z := v } } := rfl
@[simp] theorem GFix.p_point_z_c (x : GFix) : partOf true 8 31 (.agg (GFix.C x)) = some (.agg (GArr.C x.point.z.c)) := rfl
@[simp] theorem GFix.s_point_z_c (x : GFix) (v : GArr) : splice (GFix.C x) 31 (GArr.C v) = GFix.C { x with point := { x.point with z := { x.point.z with c := v } } } := rfl
@[simp] theorem GFix.p_point_z_c_a0 (x : GFix) : partOf true 2 31 (.agg (GFix.C x)) = some (.agg (GInt.C x.point.z.c.a0)) := rfl
@[simp] theorem GFix.s_point_z_c_a0 (x : GFix) (v : GInt) : splice (GFix.C x) 31 (GInt.C v) = GFix.C { x with point := { x.point with z := { x.point.z with c := { x.point.z.c with a0 := v } } } } := rfl
@[simp] theorem GFix.q_point_z_c_a0_neg (x : GFix) : (GFix.C x)[31]? = some (AV.bool x.point.z.c.a0.neg) := rfl
@[simp] theorem GFix.g_point_z_c_a0_neg (x : GFix) (h : 31 < (GFix.C x).length) : (GFix.C x)[31] = AV.bool x.point.z.c.a0.neg := rfl
@[simp] theorem GFix.s_point_z_c_a0_neg (x : GFix) (v : Bool) : splice (GFix.C x) 31 [AV.bool v] = GFix.C { x with point := { x.point with z := { x.point.z with c := { x.point.z.c with a0 := { x.point.z.c.a0 with neg := v } } } } } := rfl
@[simp] theorem GFix.q_point_z_c_a0_mag (x : GFix) : (GFix.C x)[32]? = some (AV.str x.point.z.c.a0.mag) := rfl
@[simp] theorem GFix.g_point_z_c_a0_mag (x : GFix) (h : 32 < (GFix.C x).length) : (GFix.C x)[32] = AV.str x.point.z.c.a0.mag := rfl
@[simp] theorem GFix.s_point_z_c_a0_mag (x : GFix) (v : List UInt8) : splice (GFix.C x) 32 [AV.str v] = GFix.C { x with point := { x.point with z := { x.point.z with c := { x.point.z.c with a0 := { x.point.z.c.a0 with mag := v } } } } } := rfl
@[simp] theorem GFix.p_point_z_c_a1 (x : GFix) : partOf true 2 33 (.agg (GFix.C x)) = some (.agg (GInt.C x.point.z.c.a1)) := rfl
@[simp] theorem GFix.s_point_z_c_a1 (x : GFix) (v : GInt) : splice (GFix.C x) 33 (GInt.C v) = GFix.C { x with point := { x.point with z := { x.point.z with c := { x.point.z.c with a1 := v } } } } := rfl
@[simp] theorem GFix.q_point_z_c_a1_neg (x : GFix) : (GFix.C x)[33]? = some (AV.bool x.point.z.c.a1.neg) := rfl
@[simp] theorem GFix.g_point_z_c_a1_neg (x : GFix) (h : 33 < (GFix.C x).length) : (GFix.C x)[33] = AV.bool x.point.z.c.a1.neg := rfl
@[simp] theorem GFix.s_point_z_c_a1_neg (x : GFix) (v : Bool) : splice (GFix.C x) 33 [AV.bool v] = GFix.C { x with point := { x.point with z := { x.point.z with c := { x.point.z.c with a1 := { x.point.z.c.a1 with neg := v } } } } } := rfl
@[simp] theorem GFix.q_point_z_c_a1_mag (x : GFix) : (GFix.C x)[34]? = some (AV.str x.point.z.c.a1.mag) := rfl
@[simp] theorem GFix.g_point_z_c_a1_mag (x : GFix) (h : 34 < (GFix.C x).length) : (GFix.C x)[34] = AV.str x.point.z.c.a1.mag := rfl
@[simp] theorem GFix.s_point_z_c_a1_mag (x : GFix) (v : List UInt8) : splice (GFix.C x) 34 [AV.str v] = GFix.C { x with point := { x.point with z := { x.point.z with c := { x.point.z.c with a1 := { x.point.z.c.a1 with mag := v } } } } } := rfl
@[simp] theorem GFix.p_point_z_c_a2 (x : GFix) : partOf true 2 35 (.agg (GFix.C x)) = some (.agg (GInt.C x.point.z.c.a2)) := rfl
@[simp] theorem GFix.s_point_z_c_a2 (x : GFix) (v : GInt) : splice (GFix.C x) 35 (GInt.C v) = GFix.C { x with point := { x.point with z := { x.point.z with c := { x.point.z.c with a2 := v } } } } := rfl
@[simp] theorem GFix.q_point_z_c_a2_neg (x : GFix) : (GFix.C x)[35]? = some (AV.bool x.point.z.c.a2.neg) := rfl
@[simp] theorem GFix.g_point_z_c_a2_neg (x : GFix) (h : 35 < (GFix.C x).length) : (GFix.C x)[35] = AV.bool x.point.z.c.a2.neg := rfl
@[simp] theorem GFix.s_point_z_c_a2_neg (x : GFix) (v : Bool) : splice (GFix.C x) 35 [AV.bool v] = GFix.C { x with point := { x.point with z := { x.point.z with c := { x.point.z.c with a2 := { x.point.z.c.a2 with neg := v } } } } } := rfl
@[simp] theorem GFix.q_point_z_c_a2_mag (x : GFix) : (GFix.C x)[36]? = some (AV.str x.point.z.c.a2.mag) := rfl
@[simp] theorem GFix.g_point_z_c_a2_mag (x : GFix) (h : 36 < (GFix.C x).length) : (GFix.C x)[36] = AV.str x.point.z.c.a2.mag := rfl
@[simp] theorem GFix.s_point_z_c_a2_mag (x : GFix) (v : List UInt8) : splice (GFix.C x) 36 [AV.str v] = GFix.C { x with point := { x.point with z := { x.point.z with c := { x.point.z.c with a2 := { x.point.z.c.a2 with mag := v } } } } } := rfl
@[simp] theorem GFix.p_point_z_c_a3 (x : GFix) : partOf true 2 37 (.agg (GFix.C x)) = some (.agg (GInt.C x.point.z.c.a3)) := rfl
@[simp] theorem GFix.s_point_z_c_a3 (x : GFix) (v : GInt) : splice (GFix.C x) 37 (GInt.C v) = GFix.C { x with point := { x.point with z := { x.point.z with c := { x.point.z.c with a3 := v } } } } := rfl
@[simp] theorem GFix.q_point_z_c_a3_neg (x : GFix) : (GFix.C x)[37]? = some (AV.bool x.point.z.c.a3.neg) := rfl
@[simp] theorem GFix.g_point_z_c_a3_neg (x : GFix) (h : 37 < (GFix.C x).length) : (GFix.C x)[37] = AV.bool x.point.z.c.a3.neg := rfl
@[simp] theorem GFix.s_point_z_c_a3_neg (x : GFix) (v : Bool) : splice (GFix.C x) 37 [AV.bool v] = GFix.C { x with point := { x.point with z := { x.point.z with c := { x.point.z.c with a3 := { x.point.z.c.a3 with neg := v } } } } } := rfl
@[simp] theorem GFix.q_point_z_c_a3_mag (x : GFix) : (GFix.C x)[38]? = some (AV.str x.point.z.c.a3.mag) := rfl
@[simp] theorem GFix.g_point_z_c_a3_mag (x : GFix) (h : 38 < (GFix.C x).length) : (GFix.C x)[38] = AV.str x.point.z.c.a3.mag := rfl
@[simp] theorem GFix.s_point_z_c_a3_mag (x : GFix) (v : List UInt8) : splice (GFix.C x) 38 [AV.str v] = GFix.C { x with point := { x.point with z := { x.point.z with c := { x.point.z.c with a3 := { x.point.z.c.a3 with mag := v } } } } } := rfl
@[simp] theorem GFix.p_point_z_d (x : GFix) : partOf true 2 39 (.agg (GFix.C x)) = some (.agg (GInt.C x.point.z.d)) := rfl
@[simp] theorem GFix.s_point_z_d (x : GFix) (v : GInt) : splice (GFix.C x) 39 (GInt.C v) = GFix.C { x with point := { x.point with z := { x.point.z with d := v } } } := rfl
@[simp] theorem GFix.q_point_z_d_neg (x : GFix) : (GFix.C x)[39]? = some (AV.bool x.point.z.d.neg) := rfl
@[simp] theorem GFix.g_point_z_d_neg (x : GFix) (h : 39 < (GFix.C x).length) : (GFix.C x)[39] = AV.bool x.point.z.d.neg := rfl
@[simp] theorem GFix.s_point_z_d_neg (x : GFix) (v : Bool) : splice (GFix.C x) 39 [AV.bool v] = GFix.C { x with point := { x.point with z := { x.point.z with d := { x.point.z.d with neg := v } } } } := rfl
@[simp] theorem GFix.q_point_z_d_mag (x : GFix) : (GFix.C x)[40]? = some (AV.str x.point.z.d.mag) := rfl
@[simp] theorem GFix.g_point_z_d_mag (x : GFix) (h : 40 < (GFix.C x).length) : (GFix.C x)[40] = AV.str x.point.z.d.mag := rfl
@[simp] theorem GFix.s_point_z_d_mag (x : GFix) (v : List UInt8) : splice (GFix.C x) 40 [AV.str v] = GFix.C { x with point := { x.point with z := { x.point.z with d := { x.point.z.d with mag := v } } } } := rfl
@[simp] theorem GFix.q_refs (x : GFix) : (GFix.C x)[41]? = some (slA 2 (fun r => AV.agg (GRef.C r)) x.refs) := rfl
@[simp] theorem GFix.g_refs (x : GFix) (h : 41 < (GFix.C x).length) : (GFix.C x)[41] = slA 2 (fun r => AV.agg (GRef.C r)) x.refs := rfl
@[simp] theorem GFix.s_refs (x : GFix) (v : Sl GRef) : splice (GFix.C x) 41 [slA 2 (fun r => AV.agg (GRef.C r)) v] = GFix.C { x with refs := v } := rfl
@[simp] theorem GFix.p (x : GFix) : partOf true 42 0 (.agg (GFix.C x)) = some (.agg (GFix.C x)) := rfl
@[simp] theorem GFix.s (x v : GFix) : splice (GFix.C x) 0 (GFix.C v) = GFix.C v := rfl
@[simp] theorem GFix.untip (x : GFix) : (GFix.C x).map AV.untip = GFix.C x := by simp [GFix.C]
@[simp] theorem GFix.fzN (x : GFix) {h : Store} {d : Nat} : freezeN h (d + 2) (.agg (GFix.C x)) = some (.agg (GFix.C x)) := by
  show ((GFix.C x).mapM (freezeN h (d + 1))).map AV.agg = _
  rw [mapM_id]
  · rfl
  · intro c hc
    simp only [GFix.C, List.mem_cons, List.not_mem_nil, or_false] at hc
    rcases hc with rfl | rfl | rfl | rfl | rfl | rfl | rfl | rfl | rfl | rfl | rfl | rfl | rfl | rfl | rfl | rfl | rfl | rfl | rfl | rfl | rfl | rfl | rfl | rfl | rfl | rfl | rfl | rfl | rfl | rfl | rfl | rfl | rfl | rfl | rfl | rfl | rfl | rfl | rfl | rfl | rfl | rfl <;> simp
@[simp] theorem GFix.fz (x : GFix) {h : Store} : freeze h (.agg (GFix.C x)) = some (.agg (GFix.C x)) := GFix.fzN x
@[simp] theorem GFix.rN (x : GFix) {h : Store} {d : Nat} : reachN h (d + 2) (.agg (GFix.C x)) = [] := by
  show (GFix.C x).flatMap (reachN h (d + 1)) = []
  simp [GFix.C]
@[simp] theorem GFix.clN (x : GFix) {d : Nat} : AV.closedN (d + 2) (.agg (GFix.C x)) = true := by
  show (GFix.C x).all (AV.closedN (d + 1)) = true
  simp [GFix.C]
@[simp] theorem GFix.cl (x : GFix) : (AV.agg (GFix.C x)).closed = true := GFix.clN x
@[simp] theorem GFix.low (x : GFix) {m : Nat} : (AV.agg (GFix.C x)).lower m = true := by
  show (GFix.C x).all (AV.lowerN m 3) = true
  simp [GFix.C, AV.lowerN]

/-- A tier. -/
structure GTier where
  name : List UInt8
  h : Int
  v : Int
  indices : Sl Int
  fix : GFix
  deriving DecidableEq, Inhabited
def GTier.C (x : GTier) : List AV := [AV.str x.name, AV.int .i64 x.h, AV.int .i64 x.v, slA 1 i64A x.indices, AV.int .i64 x.fix.kind, AV.bool x.fix.depth.c.a0.neg, AV.str x.fix.depth.c.a0.mag, AV.bool x.fix.depth.c.a1.neg, AV.str x.fix.depth.c.a1.mag, AV.bool x.fix.depth.c.a2.neg, AV.str x.fix.depth.c.a2.mag, AV.bool x.fix.depth.c.a3.neg, AV.str x.fix.depth.c.a3.mag, AV.bool x.fix.depth.d.neg, AV.str x.fix.depth.d.mag, AV.bool x.fix.point.x.c.a0.neg, AV.str x.fix.point.x.c.a0.mag, AV.bool x.fix.point.x.c.a1.neg, AV.str x.fix.point.x.c.a1.mag, AV.bool x.fix.point.x.c.a2.neg, AV.str x.fix.point.x.c.a2.mag, AV.bool x.fix.point.x.c.a3.neg, AV.str x.fix.point.x.c.a3.mag, AV.bool x.fix.point.x.d.neg, AV.str x.fix.point.x.d.mag, AV.bool x.fix.point.y.c.a0.neg, AV.str x.fix.point.y.c.a0.mag, AV.bool x.fix.point.y.c.a1.neg, AV.str x.fix.point.y.c.a1.mag, AV.bool x.fix.point.y.c.a2.neg, AV.str x.fix.point.y.c.a2.mag, AV.bool x.fix.point.y.c.a3.neg, AV.str x.fix.point.y.c.a3.mag, AV.bool x.fix.point.y.d.neg, AV.str x.fix.point.y.d.mag, AV.bool x.fix.point.z.c.a0.neg, AV.str x.fix.point.z.c.a0.mag, AV.bool x.fix.point.z.c.a1.neg, AV.str x.fix.point.z.c.a1.mag, AV.bool x.fix.point.z.c.a2.neg, AV.str x.fix.point.z.c.a2.mag, AV.bool x.fix.point.z.c.a3.neg, AV.str x.fix.point.z.c.a3.mag, AV.bool x.fix.point.z.d.neg, AV.str x.fix.point.z.d.mag, slA 2 (fun r => AV.agg (GRef.C r)) x.fix.refs]
@[simp] theorem GTier.len (x : GTier) : (GTier.C x).length = 46 := rfl
@[simp] theorem GTier.q_name (x : GTier) : (GTier.C x)[0]? = some (AV.str x.name) := rfl
@[simp] theorem GTier.g_name (x : GTier) (h : 0 < (GTier.C x).length) : (GTier.C x)[0] = AV.str x.name := rfl
@[simp] theorem GTier.s_name (x : GTier) (v : List UInt8) : splice (GTier.C x) 0 [AV.str v] = GTier.C { x with name := v } := rfl
@[simp] theorem GTier.q_h (x : GTier) : (GTier.C x)[1]? = some (AV.int .i64 x.h) := rfl
@[simp] theorem GTier.g_h (x : GTier) (h : 1 < (GTier.C x).length) : (GTier.C x)[1] = AV.int .i64 x.h := rfl
@[simp] theorem GTier.s_h (x : GTier) (v : Int) : splice (GTier.C x) 1 [AV.int .i64 v] = GTier.C { x with h := v } := rfl
@[simp] theorem GTier.q_v (x : GTier) : (GTier.C x)[2]? = some (AV.int .i64 x.v) := rfl
@[simp] theorem GTier.g_v (x : GTier) (h : 2 < (GTier.C x).length) : (GTier.C x)[2] = AV.int .i64 x.v := rfl
@[simp] theorem GTier.s_v (x : GTier) (v : Int) : splice (GTier.C x) 2 [AV.int .i64 v] = GTier.C { x with v := v } := rfl
@[simp] theorem GTier.q_indices (x : GTier) : (GTier.C x)[3]? = some (slA 1 i64A x.indices) := rfl
@[simp] theorem GTier.g_indices (x : GTier) (h : 3 < (GTier.C x).length) : (GTier.C x)[3] = slA 1 i64A x.indices := rfl
@[simp] theorem GTier.s_indices (x : GTier) (v : Sl Int) : splice (GTier.C x) 3 [slA 1 i64A v] = GTier.C { x with indices := v } := rfl
@[simp] theorem GTier.p_fix (x : GTier) : partOf true 42 4 (.agg (GTier.C x)) = some (.agg (GFix.C x.fix)) := rfl
@[simp] theorem GTier.s_fix (x : GTier) (v : GFix) : splice (GTier.C x) 4 (GFix.C v) = GTier.C { x with fix := v } := rfl
@[simp] theorem GTier.q_fix_kind (x : GTier) : (GTier.C x)[4]? = some (AV.int .i64 x.fix.kind) := rfl
@[simp] theorem GTier.g_fix_kind (x : GTier) (h : 4 < (GTier.C x).length) : (GTier.C x)[4] = AV.int .i64 x.fix.kind := rfl
@[simp] theorem GTier.s_fix_kind (x : GTier) (v : Int) : splice (GTier.C x) 4 [AV.int .i64 v] = GTier.C { x with fix := { x.fix with kind := v } } := rfl
@[simp] theorem GTier.p_fix_depth (x : GTier) : partOf true 10 5 (.agg (GTier.C x)) = some (.agg (GNum.C x.fix.depth)) := rfl
@[simp] theorem GTier.s_fix_depth (x : GTier) (v : GNum) : splice (GTier.C x) 5 (GNum.C v) = GTier.C { x with fix := { x.fix with depth := v } } := rfl
@[simp] theorem GTier.p_fix_depth_c (x : GTier) : partOf true 8 5 (.agg (GTier.C x)) = some (.agg (GArr.C x.fix.depth.c)) := rfl
@[simp] theorem GTier.s_fix_depth_c (x : GTier) (v : GArr) : splice (GTier.C x) 5 (GArr.C v) = GTier.C { x with fix := { x.fix with depth := { x.fix.depth with c := v } } } := rfl
@[simp] theorem GTier.p_fix_depth_c_a0 (x : GTier) : partOf true 2 5 (.agg (GTier.C x)) = some (.agg (GInt.C x.fix.depth.c.a0)) := rfl
@[simp] theorem GTier.s_fix_depth_c_a0 (x : GTier) (v : GInt) : splice (GTier.C x) 5 (GInt.C v) = GTier.C { x with fix := { x.fix with depth := { x.fix.depth with c := { x.fix.depth.c with a0 := v } } } } := rfl
@[simp] theorem GTier.q_fix_depth_c_a0_neg (x : GTier) : (GTier.C x)[5]? = some (AV.bool x.fix.depth.c.a0.neg) := rfl
@[simp] theorem GTier.g_fix_depth_c_a0_neg (x : GTier) (h : 5 < (GTier.C x).length) : (GTier.C x)[5] = AV.bool x.fix.depth.c.a0.neg := rfl
@[simp] theorem GTier.s_fix_depth_c_a0_neg (x : GTier) (v : Bool) : splice (GTier.C x) 5 [AV.bool v] = GTier.C { x with fix := { x.fix with depth := { x.fix.depth with c := { x.fix.depth.c with a0 := { x.fix.depth.c.a0 with neg := v } } } } } := rfl
@[simp] theorem GTier.q_fix_depth_c_a0_mag (x : GTier) : (GTier.C x)[6]? = some (AV.str x.fix.depth.c.a0.mag) := rfl
@[simp] theorem GTier.g_fix_depth_c_a0_mag (x : GTier) (h : 6 < (GTier.C x).length) : (GTier.C x)[6] = AV.str x.fix.depth.c.a0.mag := rfl
@[simp] theorem GTier.s_fix_depth_c_a0_mag (x : GTier) (v : List UInt8) : splice (GTier.C x) 6 [AV.str v] = GTier.C { x with fix := { x.fix with depth := { x.fix.depth with c := { x.fix.depth.c with a0 := { x.fix.depth.c.a0 with mag := v } } } } } := rfl
@[simp] theorem GTier.p_fix_depth_c_a1 (x : GTier) : partOf true 2 7 (.agg (GTier.C x)) = some (.agg (GInt.C x.fix.depth.c.a1)) := rfl
@[simp] theorem GTier.s_fix_depth_c_a1 (x : GTier) (v : GInt) : splice (GTier.C x) 7 (GInt.C v) = GTier.C { x with fix := { x.fix with depth := { x.fix.depth with c := { x.fix.depth.c with a1 := v } } } } := rfl
@[simp] theorem GTier.q_fix_depth_c_a1_neg (x : GTier) : (GTier.C x)[7]? = some (AV.bool x.fix.depth.c.a1.neg) := rfl
@[simp] theorem GTier.g_fix_depth_c_a1_neg (x : GTier) (h : 7 < (GTier.C x).length) : (GTier.C x)[7] = AV.bool x.fix.depth.c.a1.neg := rfl
@[simp] theorem GTier.s_fix_depth_c_a1_neg (x : GTier) (v : Bool) : splice (GTier.C x) 7 [AV.bool v] = GTier.C { x with fix := { x.fix with depth := { x.fix.depth with c := { x.fix.depth.c with a1 := { x.fix.depth.c.a1 with neg := v } } } } } := rfl
@[simp] theorem GTier.q_fix_depth_c_a1_mag (x : GTier) : (GTier.C x)[8]? = some (AV.str x.fix.depth.c.a1.mag) := rfl
@[simp] theorem GTier.g_fix_depth_c_a1_mag (x : GTier) (h : 8 < (GTier.C x).length) : (GTier.C x)[8] = AV.str x.fix.depth.c.a1.mag := rfl
@[simp] theorem GTier.s_fix_depth_c_a1_mag (x : GTier) (v : List UInt8) : splice (GTier.C x) 8 [AV.str v] = GTier.C { x with fix := { x.fix with depth := { x.fix.depth with c := { x.fix.depth.c with a1 := { x.fix.depth.c.a1 with mag := v } } } } } := rfl
@[simp] theorem GTier.p_fix_depth_c_a2 (x : GTier) : partOf true 2 9 (.agg (GTier.C x)) = some (.agg (GInt.C x.fix.depth.c.a2)) := rfl
@[simp] theorem GTier.s_fix_depth_c_a2 (x : GTier) (v : GInt) : splice (GTier.C x) 9 (GInt.C v) = GTier.C { x with fix := { x.fix with depth := { x.fix.depth with c := { x.fix.depth.c with a2 := v } } } } := rfl
@[simp] theorem GTier.q_fix_depth_c_a2_neg (x : GTier) : (GTier.C x)[9]? = some (AV.bool x.fix.depth.c.a2.neg) := rfl
@[simp] theorem GTier.g_fix_depth_c_a2_neg (x : GTier) (h : 9 < (GTier.C x).length) : (GTier.C x)[9] = AV.bool x.fix.depth.c.a2.neg := rfl
@[simp] theorem GTier.s_fix_depth_c_a2_neg (x : GTier) (v : Bool) : splice (GTier.C x) 9 [AV.bool v] = GTier.C { x with fix := { x.fix with depth := { x.fix.depth with c := { x.fix.depth.c with a2 := { x.fix.depth.c.a2 with neg := v } } } } } := rfl
@[simp] theorem GTier.q_fix_depth_c_a2_mag (x : GTier) : (GTier.C x)[10]? = some (AV.str x.fix.depth.c.a2.mag) := rfl
@[simp] theorem GTier.g_fix_depth_c_a2_mag (x : GTier) (h : 10 < (GTier.C x).length) : (GTier.C x)[10] = AV.str x.fix.depth.c.a2.mag := rfl
@[simp] theorem GTier.s_fix_depth_c_a2_mag (x : GTier) (v : List UInt8) : splice (GTier.C x) 10 [AV.str v] = GTier.C { x with fix := { x.fix with depth := { x.fix.depth with c := { x.fix.depth.c with a2 := { x.fix.depth.c.a2 with mag := v } } } } } := rfl
@[simp] theorem GTier.p_fix_depth_c_a3 (x : GTier) : partOf true 2 11 (.agg (GTier.C x)) = some (.agg (GInt.C x.fix.depth.c.a3)) := rfl
@[simp] theorem GTier.s_fix_depth_c_a3 (x : GTier) (v : GInt) : splice (GTier.C x) 11 (GInt.C v) = GTier.C { x with fix := { x.fix with depth := { x.fix.depth with c := { x.fix.depth.c with a3 := v } } } } := rfl
@[simp] theorem GTier.q_fix_depth_c_a3_neg (x : GTier) : (GTier.C x)[11]? = some (AV.bool x.fix.depth.c.a3.neg) := rfl
@[simp] theorem GTier.g_fix_depth_c_a3_neg (x : GTier) (h : 11 < (GTier.C x).length) : (GTier.C x)[11] = AV.bool x.fix.depth.c.a3.neg := rfl
@[simp] theorem GTier.s_fix_depth_c_a3_neg (x : GTier) (v : Bool) : splice (GTier.C x) 11 [AV.bool v] = GTier.C { x with fix := { x.fix with depth := { x.fix.depth with c := { x.fix.depth.c with a3 := { x.fix.depth.c.a3 with neg := v } } } } } := rfl
@[simp] theorem GTier.q_fix_depth_c_a3_mag (x : GTier) : (GTier.C x)[12]? = some (AV.str x.fix.depth.c.a3.mag) := rfl
@[simp] theorem GTier.g_fix_depth_c_a3_mag (x : GTier) (h : 12 < (GTier.C x).length) : (GTier.C x)[12] = AV.str x.fix.depth.c.a3.mag := rfl
@[simp] theorem GTier.s_fix_depth_c_a3_mag (x : GTier) (v : List UInt8) : splice (GTier.C x) 12 [AV.str v] = GTier.C { x with fix := { x.fix with depth := { x.fix.depth with c := { x.fix.depth.c with a3 := { x.fix.depth.c.a3 with mag := v } } } } } := rfl
@[simp] theorem GTier.p_fix_depth_d (x : GTier) : partOf true 2 13 (.agg (GTier.C x)) = some (.agg (GInt.C x.fix.depth.d)) := rfl
@[simp] theorem GTier.s_fix_depth_d (x : GTier) (v : GInt) : splice (GTier.C x) 13 (GInt.C v) = GTier.C { x with fix := { x.fix with depth := { x.fix.depth with d := v } } } := rfl
@[simp] theorem GTier.q_fix_depth_d_neg (x : GTier) : (GTier.C x)[13]? = some (AV.bool x.fix.depth.d.neg) := rfl
@[simp] theorem GTier.g_fix_depth_d_neg (x : GTier) (h : 13 < (GTier.C x).length) : (GTier.C x)[13] = AV.bool x.fix.depth.d.neg := rfl
@[simp] theorem GTier.s_fix_depth_d_neg (x : GTier) (v : Bool) : splice (GTier.C x) 13 [AV.bool v] = GTier.C { x with fix := { x.fix with depth := { x.fix.depth with d := { x.fix.depth.d with neg := v } } } } := rfl
@[simp] theorem GTier.q_fix_depth_d_mag (x : GTier) : (GTier.C x)[14]? = some (AV.str x.fix.depth.d.mag) := rfl
@[simp] theorem GTier.g_fix_depth_d_mag (x : GTier) (h : 14 < (GTier.C x).length) : (GTier.C x)[14] = AV.str x.fix.depth.d.mag := rfl
@[simp] theorem GTier.s_fix_depth_d_mag (x : GTier) (v : List UInt8) : splice (GTier.C x) 14 [AV.str v] = GTier.C { x with fix := { x.fix with depth := { x.fix.depth with d := { x.fix.depth.d with mag := v } } } } := rfl
@[simp] theorem GTier.p_fix_point (x : GTier) : partOf true 30 15 (.agg (GTier.C x)) = some (.agg (GVec.C x.fix.point)) := rfl
@[simp] theorem GTier.s_fix_point (x : GTier) (v : GVec) : splice (GTier.C x) 15 (GVec.C v) = GTier.C { x with fix := { x.fix with point := v } } := rfl
@[simp] theorem GTier.p_fix_point_x (x : GTier) : partOf true 10 15 (.agg (GTier.C x)) = some (.agg (GNum.C x.fix.point.x)) := rfl
@[simp] theorem GTier.s_fix_point_x (x : GTier) (v : GNum) : splice (GTier.C x) 15 (GNum.C v) = GTier.C { x with fix := { x.fix with point := { x.fix.point with x := v } } } := rfl
@[simp] theorem GTier.p_fix_point_x_c (x : GTier) : partOf true 8 15 (.agg (GTier.C x)) = some (.agg (GArr.C x.fix.point.x.c)) := rfl
@[simp] theorem GTier.s_fix_point_x_c (x : GTier) (v : GArr) : splice (GTier.C x) 15 (GArr.C v) = GTier.C { x with fix := { x.fix with point := { x.fix.point with x := { x.fix.point.x with c := v } } } } := rfl
@[simp] theorem GTier.p_fix_point_x_c_a0 (x : GTier) : partOf true 2 15 (.agg (GTier.C x)) = some (.agg (GInt.C x.fix.point.x.c.a0)) := rfl
@[simp] theorem GTier.s_fix_point_x_c_a0 (x : GTier) (v : GInt) : splice (GTier.C x) 15 (GInt.C v) = GTier.C { x with fix := { x.fix with point := { x.fix.point with x := { x.fix.point.x with c := { x.fix.point.x.c with a0 := v } } } } } := rfl
@[simp] theorem GTier.q_fix_point_x_c_a0_neg (x : GTier) : (GTier.C x)[15]? = some (AV.bool x.fix.point.x.c.a0.neg) := rfl
@[simp] theorem GTier.g_fix_point_x_c_a0_neg (x : GTier) (h : 15 < (GTier.C x).length) : (GTier.C x)[15] = AV.bool x.fix.point.x.c.a0.neg := rfl
@[simp] theorem GTier.s_fix_point_x_c_a0_neg (x : GTier) (v : Bool) : splice (GTier.C x) 15 [AV.bool v] = GTier.C { x with fix := { x.fix with point := { x.fix.point with x := { x.fix.point.x with c := { x.fix.point.x.c with a0 := { x.fix.point.x.c.a0 with neg := v } } } } } } := rfl
@[simp] theorem GTier.q_fix_point_x_c_a0_mag (x : GTier) : (GTier.C x)[16]? = some (AV.str x.fix.point.x.c.a0.mag) := rfl
@[simp] theorem GTier.g_fix_point_x_c_a0_mag (x : GTier) (h : 16 < (GTier.C x).length) : (GTier.C x)[16] = AV.str x.fix.point.x.c.a0.mag := rfl
@[simp] theorem GTier.s_fix_point_x_c_a0_mag (x : GTier) (v : List UInt8) : splice (GTier.C x) 16 [AV.str v] = GTier.C { x with fix := { x.fix with point := { x.fix.point with x := { x.fix.point.x with c := { x.fix.point.x.c with a0 := { x.fix.point.x.c.a0 with mag := v } } } } } } := rfl
@[simp] theorem GTier.p_fix_point_x_c_a1 (x : GTier) : partOf true 2 17 (.agg (GTier.C x)) = some (.agg (GInt.C x.fix.point.x.c.a1)) := rfl
@[simp] theorem GTier.s_fix_point_x_c_a1 (x : GTier) (v : GInt) : splice (GTier.C x) 17 (GInt.C v) = GTier.C { x with fix := { x.fix with point := { x.fix.point with x := { x.fix.point.x with c := { x.fix.point.x.c with a1 := v } } } } } := rfl
@[simp] theorem GTier.q_fix_point_x_c_a1_neg (x : GTier) : (GTier.C x)[17]? = some (AV.bool x.fix.point.x.c.a1.neg) := rfl
@[simp] theorem GTier.g_fix_point_x_c_a1_neg (x : GTier) (h : 17 < (GTier.C x).length) : (GTier.C x)[17] = AV.bool x.fix.point.x.c.a1.neg := rfl
@[simp] theorem GTier.s_fix_point_x_c_a1_neg (x : GTier) (v : Bool) : splice (GTier.C x) 17 [AV.bool v] = GTier.C { x with fix := { x.fix with point := { x.fix.point with x := { x.fix.point.x with c := { x.fix.point.x.c with a1 := { x.fix.point.x.c.a1 with neg := v } } } } } } := rfl
@[simp] theorem GTier.q_fix_point_x_c_a1_mag (x : GTier) : (GTier.C x)[18]? = some (AV.str x.fix.point.x.c.a1.mag) := rfl
@[simp] theorem GTier.g_fix_point_x_c_a1_mag (x : GTier) (h : 18 < (GTier.C x).length) : (GTier.C x)[18] = AV.str x.fix.point.x.c.a1.mag := rfl
@[simp] theorem GTier.s_fix_point_x_c_a1_mag (x : GTier) (v : List UInt8) : splice (GTier.C x) 18 [AV.str v] = GTier.C { x with fix := { x.fix with point := { x.fix.point with x := { x.fix.point.x with c := { x.fix.point.x.c with a1 := { x.fix.point.x.c.a1 with mag := v } } } } } } := rfl
@[simp] theorem GTier.p_fix_point_x_c_a2 (x : GTier) : partOf true 2 19 (.agg (GTier.C x)) = some (.agg (GInt.C x.fix.point.x.c.a2)) := rfl
@[simp] theorem GTier.s_fix_point_x_c_a2 (x : GTier) (v : GInt) : splice (GTier.C x) 19 (GInt.C v) = GTier.C { x with fix := { x.fix with point := { x.fix.point with x := { x.fix.point.x with c := { x.fix.point.x.c with a2 := v } } } } } := rfl
@[simp] theorem GTier.q_fix_point_x_c_a2_neg (x : GTier) : (GTier.C x)[19]? = some (AV.bool x.fix.point.x.c.a2.neg) := rfl
@[simp] theorem GTier.g_fix_point_x_c_a2_neg (x : GTier) (h : 19 < (GTier.C x).length) : (GTier.C x)[19] = AV.bool x.fix.point.x.c.a2.neg := rfl
@[simp] theorem GTier.s_fix_point_x_c_a2_neg (x : GTier) (v : Bool) : splice (GTier.C x) 19 [AV.bool v] = GTier.C { x with fix := { x.fix with point := { x.fix.point with x := { x.fix.point.x with c := { x.fix.point.x.c with a2 := { x.fix.point.x.c.a2 with neg := v } } } } } } := rfl
@[simp] theorem GTier.q_fix_point_x_c_a2_mag (x : GTier) : (GTier.C x)[20]? = some (AV.str x.fix.point.x.c.a2.mag) := rfl
@[simp] theorem GTier.g_fix_point_x_c_a2_mag (x : GTier) (h : 20 < (GTier.C x).length) : (GTier.C x)[20] = AV.str x.fix.point.x.c.a2.mag := rfl
@[simp] theorem GTier.s_fix_point_x_c_a2_mag (x : GTier) (v : List UInt8) : splice (GTier.C x) 20 [AV.str v] = GTier.C { x with fix := { x.fix with point := { x.fix.point with x := { x.fix.point.x with c := { x.fix.point.x.c with a2 := { x.fix.point.x.c.a2 with mag := v } } } } } } := rfl
@[simp] theorem GTier.p_fix_point_x_c_a3 (x : GTier) : partOf true 2 21 (.agg (GTier.C x)) = some (.agg (GInt.C x.fix.point.x.c.a3)) := rfl
@[simp] theorem GTier.s_fix_point_x_c_a3 (x : GTier) (v : GInt) : splice (GTier.C x) 21 (GInt.C v) = GTier.C { x with fix := { x.fix with point := { x.fix.point with x := { x.fix.point.x with c := { x.fix.point.x.c with a3 := v } } } } } := rfl
@[simp] theorem GTier.q_fix_point_x_c_a3_neg (x : GTier) : (GTier.C x)[21]? = some (AV.bool x.fix.point.x.c.a3.neg) := rfl
@[simp] theorem GTier.g_fix_point_x_c_a3_neg (x : GTier) (h : 21 < (GTier.C x).length) : (GTier.C x)[21] = AV.bool x.fix.point.x.c.a3.neg := rfl
@[simp] theorem GTier.s_fix_point_x_c_a3_neg (x : GTier) (v : Bool) : splice (GTier.C x) 21 [AV.bool v] = GTier.C { x with fix := { x.fix with point := { x.fix.point with x := { x.fix.point.x with c := { x.fix.point.x.c with a3 := { x.fix.point.x.c.a3 with neg := v } } } } } } := rfl
@[simp] theorem GTier.q_fix_point_x_c_a3_mag (x : GTier) : (GTier.C x)[22]? = some (AV.str x.fix.point.x.c.a3.mag) := rfl
@[simp] theorem GTier.g_fix_point_x_c_a3_mag (x : GTier) (h : 22 < (GTier.C x).length) : (GTier.C x)[22] = AV.str x.fix.point.x.c.a3.mag := rfl
@[simp] theorem GTier.s_fix_point_x_c_a3_mag (x : GTier) (v : List UInt8) : splice (GTier.C x) 22 [AV.str v] = GTier.C { x with fix := { x.fix with point := { x.fix.point with x := { x.fix.point.x with c := { x.fix.point.x.c with a3 := { x.fix.point.x.c.a3 with mag := v } } } } } } := rfl
@[simp] theorem GTier.p_fix_point_x_d (x : GTier) : partOf true 2 23 (.agg (GTier.C x)) = some (.agg (GInt.C x.fix.point.x.d)) := rfl
@[simp] theorem GTier.s_fix_point_x_d (x : GTier) (v : GInt) : splice (GTier.C x) 23 (GInt.C v) = GTier.C { x with fix := { x.fix with point := { x.fix.point with x := { x.fix.point.x with d := v } } } } := rfl
@[simp] theorem GTier.q_fix_point_x_d_neg (x : GTier) : (GTier.C x)[23]? = some (AV.bool x.fix.point.x.d.neg) := rfl
@[simp] theorem GTier.g_fix_point_x_d_neg (x : GTier) (h : 23 < (GTier.C x).length) : (GTier.C x)[23] = AV.bool x.fix.point.x.d.neg := rfl
@[simp] theorem GTier.s_fix_point_x_d_neg (x : GTier) (v : Bool) : splice (GTier.C x) 23 [AV.bool v] = GTier.C { x with fix := { x.fix with point := { x.fix.point with x := { x.fix.point.x with d := { x.fix.point.x.d with neg := v } } } } } := rfl
@[simp] theorem GTier.q_fix_point_x_d_mag (x : GTier) : (GTier.C x)[24]? = some (AV.str x.fix.point.x.d.mag) := rfl
@[simp] theorem GTier.g_fix_point_x_d_mag (x : GTier) (h : 24 < (GTier.C x).length) : (GTier.C x)[24] = AV.str x.fix.point.x.d.mag := rfl
@[simp] theorem GTier.s_fix_point_x_d_mag (x : GTier) (v : List UInt8) : splice (GTier.C x) 24 [AV.str v] = GTier.C { x with fix := { x.fix with point := { x.fix.point with x := { x.fix.point.x with d := { x.fix.point.x.d with mag := v } } } } } := rfl
@[simp] theorem GTier.p_fix_point_y (x : GTier) : partOf true 10 25 (.agg (GTier.C x)) = some (.agg (GNum.C x.fix.point.y)) := rfl
@[simp] theorem GTier.s_fix_point_y (x : GTier) (v : GNum) : splice (GTier.C x) 25 (GNum.C v) = GTier.C { x with fix := { x.fix with point := { x.fix.point with y := v } } } := rfl
@[simp] theorem GTier.p_fix_point_y_c (x : GTier) : partOf true 8 25 (.agg (GTier.C x)) = some (.agg (GArr.C x.fix.point.y.c)) := rfl
@[simp] theorem GTier.s_fix_point_y_c (x : GTier) (v : GArr) : splice (GTier.C x) 25 (GArr.C v) = GTier.C { x with fix := { x.fix with point := { x.fix.point with y := { x.fix.point.y with c := v } } } } := rfl
@[simp] theorem GTier.p_fix_point_y_c_a0 (x : GTier) : partOf true 2 25 (.agg (GTier.C x)) = some (.agg (GInt.C x.fix.point.y.c.a0)) := rfl
@[simp] theorem GTier.s_fix_point_y_c_a0 (x : GTier) (v : GInt) : splice (GTier.C x) 25 (GInt.C v) = GTier.C { x with fix := { x.fix with point := { x.fix.point with y := { x.fix.point.y with c := { x.fix.point.y.c with a0 := v } } } } } := rfl
@[simp] theorem GTier.q_fix_point_y_c_a0_neg (x : GTier) : (GTier.C x)[25]? = some (AV.bool x.fix.point.y.c.a0.neg) := rfl
@[simp] theorem GTier.g_fix_point_y_c_a0_neg (x : GTier) (h : 25 < (GTier.C x).length) : (GTier.C x)[25] = AV.bool x.fix.point.y.c.a0.neg := rfl
@[simp] theorem GTier.s_fix_point_y_c_a0_neg (x : GTier) (v : Bool) : splice (GTier.C x) 25 [AV.bool v] = GTier.C { x with fix := { x.fix with point := { x.fix.point with y := { x.fix.point.y with c := { x.fix.point.y.c with a0 := { x.fix.point.y.c.a0 with neg := v } } } } } } := rfl
@[simp] theorem GTier.q_fix_point_y_c_a0_mag (x : GTier) : (GTier.C x)[26]? = some (AV.str x.fix.point.y.c.a0.mag) := rfl
@[simp] theorem GTier.g_fix_point_y_c_a0_mag (x : GTier) (h : 26 < (GTier.C x).length) : (GTier.C x)[26] = AV.str x.fix.point.y.c.a0.mag := rfl
@[simp] theorem GTier.s_fix_point_y_c_a0_mag (x : GTier) (v : List UInt8) : splice (GTier.C x) 26 [AV.str v] = GTier.C { x with fix := { x.fix with point := { x.fix.point with y := { x.fix.point.y with c := { x.fix.point.y.c with a0 := { x.fix.point.y.c.a0 with mag := v } } } } } } := rfl
@[simp] theorem GTier.p_fix_point_y_c_a1 (x : GTier) : partOf true 2 27 (.agg (GTier.C x)) = some (.agg (GInt.C x.fix.point.y.c.a1)) := rfl
@[simp] theorem GTier.s_fix_point_y_c_a1 (x : GTier) (v : GInt) : splice (GTier.C x) 27 (GInt.C v) = GTier.C { x with fix := { x.fix with point := { x.fix.point with y := { x.fix.point.y with c := { x.fix.point.y.c with a1 := v } } } } } := rfl
@[simp] theorem GTier.q_fix_point_y_c_a1_neg (x : GTier) : (GTier.C x)[27]? = some (AV.bool x.fix.point.y.c.a1.neg) := rfl
@[simp] theorem GTier.g_fix_point_y_c_a1_neg (x : GTier) (h : 27 < (GTier.C x).length) : (GTier.C x)[27] = AV.bool x.fix.point.y.c.a1.neg := rfl
@[simp] theorem GTier.s_fix_point_y_c_a1_neg (x : GTier) (v : Bool) : splice (GTier.C x) 27 [AV.bool v] = GTier.C { x with fix := { x.fix with point := { x.fix.point with y := { x.fix.point.y with c := { x.fix.point.y.c with a1 := { x.fix.point.y.c.a1 with neg := v } } } } } } := rfl
@[simp] theorem GTier.q_fix_point_y_c_a1_mag (x : GTier) : (GTier.C x)[28]? = some (AV.str x.fix.point.y.c.a1.mag) := rfl
@[simp] theorem GTier.g_fix_point_y_c_a1_mag (x : GTier) (h : 28 < (GTier.C x).length) : (GTier.C x)[28] = AV.str x.fix.point.y.c.a1.mag := rfl
@[simp] theorem GTier.s_fix_point_y_c_a1_mag (x : GTier) (v : List UInt8) : splice (GTier.C x) 28 [AV.str v] = GTier.C { x with fix := { x.fix with point := { x.fix.point with y := { x.fix.point.y with c := { x.fix.point.y.c with a1 := { x.fix.point.y.c.a1 with mag := v } } } } } } := rfl
@[simp] theorem GTier.p_fix_point_y_c_a2 (x : GTier) : partOf true 2 29 (.agg (GTier.C x)) = some (.agg (GInt.C x.fix.point.y.c.a2)) := rfl
@[simp] theorem GTier.s_fix_point_y_c_a2 (x : GTier) (v : GInt) : splice (GTier.C x) 29 (GInt.C v) = GTier.C { x with fix := { x.fix with point := { x.fix.point with y := { x.fix.point.y with c := { x.fix.point.y.c with a2 := v } } } } } := rfl
@[simp] theorem GTier.q_fix_point_y_c_a2_neg (x : GTier) : (GTier.C x)[29]? = some (AV.bool x.fix.point.y.c.a2.neg) := rfl
@[simp] theorem GTier.g_fix_point_y_c_a2_neg (x : GTier) (h : 29 < (GTier.C x).length) : (GTier.C x)[29] = AV.bool x.fix.point.y.c.a2.neg := rfl
@[simp] theorem GTier.s_fix_point_y_c_a2_neg (x : GTier) (v : Bool) : splice (GTier.C x) 29 [AV.bool v] = GTier.C { x with fix := { x.fix with point := { x.fix.point with y := { x.fix.point.y with c := { x.fix.point.y.c with a2 := { x.fix.point.y.c.a2 with neg := v } } } } } } := rfl
@[simp] theorem GTier.q_fix_point_y_c_a2_mag (x : GTier) : (GTier.C x)[30]? = some (AV.str x.fix.point.y.c.a2.mag) := rfl
@[simp] theorem GTier.g_fix_point_y_c_a2_mag (x : GTier) (h : 30 < (GTier.C x).length) : (GTier.C x)[30] = AV.str x.fix.point.y.c.a2.mag := rfl
@[simp] theorem GTier.s_fix_point_y_c_a2_mag (x : GTier) (v : List UInt8) : splice (GTier.C x) 30 [AV.str v] = GTier.C { x with fix := { x.fix with point := { x.fix.point with y := { x.fix.point.y with c := { x.fix.point.y.c with a2 := { x.fix.point.y.c.a2 with mag := v } } } } } } := rfl
@[simp] theorem GTier.p_fix_point_y_c_a3 (x : GTier) : partOf true 2 31 (.agg (GTier.C x)) = some (.agg (GInt.C x.fix.point.y.c.a3)) := rfl
@[simp] theorem GTier.s_fix_point_y_c_a3 (x : GTier) (v : GInt) : splice (GTier.C x) 31 (GInt.C v) = GTier.C { x with fix := { x.fix with point := { x.fix.point with y := { x.fix.point.y with c := { x.fix.point.y.c with a3 := v } } } } } := rfl
@[simp] theorem GTier.q_fix_point_y_c_a3_neg (x : GTier) : (GTier.C x)[31]? = some (AV.bool x.fix.point.y.c.a3.neg) := rfl
@[simp] theorem GTier.g_fix_point_y_c_a3_neg (x : GTier) (h : 31 < (GTier.C x).length) : (GTier.C x)[31] = AV.bool x.fix.point.y.c.a3.neg := rfl
@[simp] theorem GTier.s_fix_point_y_c_a3_neg (x : GTier) (v : Bool) : splice (GTier.C x) 31 [AV.bool v] = GTier.C { x with fix := { x.fix with point := { x.fix.point with y := { x.fix.point.y with c := { x.fix.point.y.c with a3 := { x.fix.point.y.c.a3 with neg := v } } } } } } := rfl
@[simp] theorem GTier.q_fix_point_y_c_a3_mag (x : GTier) : (GTier.C x)[32]? = some (AV.str x.fix.point.y.c.a3.mag) := rfl
@[simp] theorem GTier.g_fix_point_y_c_a3_mag (x : GTier) (h : 32 < (GTier.C x).length) : (GTier.C x)[32] = AV.str x.fix.point.y.c.a3.mag := rfl
@[simp] theorem GTier.s_fix_point_y_c_a3_mag (x : GTier) (v : List UInt8) : splice (GTier.C x) 32 [AV.str v] = GTier.C { x with fix := { x.fix with point := { x.fix.point with y := { x.fix.point.y with c := { x.fix.point.y.c with a3 := { x.fix.point.y.c.a3 with mag := v } } } } } } := rfl
@[simp] theorem GTier.p_fix_point_y_d (x : GTier) : partOf true 2 33 (.agg (GTier.C x)) = some (.agg (GInt.C x.fix.point.y.d)) := rfl
@[simp] theorem GTier.s_fix_point_y_d (x : GTier) (v : GInt) : splice (GTier.C x) 33 (GInt.C v) = GTier.C { x with fix := { x.fix with point := { x.fix.point with y := { x.fix.point.y with d := v } } } } := rfl
@[simp] theorem GTier.q_fix_point_y_d_neg (x : GTier) : (GTier.C x)[33]? = some (AV.bool x.fix.point.y.d.neg) := rfl
@[simp] theorem GTier.g_fix_point_y_d_neg (x : GTier) (h : 33 < (GTier.C x).length) : (GTier.C x)[33] = AV.bool x.fix.point.y.d.neg := rfl
@[simp] theorem GTier.s_fix_point_y_d_neg (x : GTier) (v : Bool) : splice (GTier.C x) 33 [AV.bool v] = GTier.C { x with fix := { x.fix with point := { x.fix.point with y := { x.fix.point.y with d := { x.fix.point.y.d with neg := v } } } } } := rfl
@[simp] theorem GTier.q_fix_point_y_d_mag (x : GTier) : (GTier.C x)[34]? = some (AV.str x.fix.point.y.d.mag) := rfl
@[simp] theorem GTier.g_fix_point_y_d_mag (x : GTier) (h : 34 < (GTier.C x).length) : (GTier.C x)[34] = AV.str x.fix.point.y.d.mag := rfl
@[simp] theorem GTier.s_fix_point_y_d_mag (x : GTier) (v : List UInt8) : splice (GTier.C x) 34 [AV.str v] = GTier.C { x with fix := { x.fix with point := { x.fix.point with y := { x.fix.point.y with d := { x.fix.point.y.d with mag := v } } } } } := rfl
@[simp] theorem GTier.p_fix_point_z (x : GTier) : partOf true 10 35 (.agg (GTier.C x)) = some (.agg (GNum.C x.fix.point.z)) := rfl
@[simp] theorem GTier.s_fix_point_z (x : GTier) (v : GNum) : splice (GTier.C x) 35 (GNum.C v) = GTier.C { x with fix := { x.fix with point := { x.fix.point with z := v } } } := rfl
@[simp] theorem GTier.p_fix_point_z_c (x : GTier) : partOf true 8 35 (.agg (GTier.C x)) = some (.agg (GArr.C x.fix.point.z.c)) := rfl
@[simp] theorem GTier.s_fix_point_z_c (x : GTier) (v : GArr) : splice (GTier.C x) 35 (GArr.C v) = GTier.C { x with fix := { x.fix with point := { x.fix.point with z := { x.fix.point.z with c := v } } } } := rfl
@[simp] theorem GTier.p_fix_point_z_c_a0 (x : GTier) : partOf true 2 35 (.agg (GTier.C x)) = some (.agg (GInt.C x.fix.point.z.c.a0)) := rfl
@[simp] theorem GTier.s_fix_point_z_c_a0 (x : GTier) (v : GInt) : splice (GTier.C x) 35 (GInt.C v) = GTier.C { x with fix := { x.fix with point := { x.fix.point with z := { x.fix.point.z with c := { x.fix.point.z.c with a0 := v } } } } } := rfl
@[simp] theorem GTier.q_fix_point_z_c_a0_neg (x : GTier) : (GTier.C x)[35]? = some (AV.bool x.fix.point.z.c.a0.neg) := rfl
@[simp] theorem GTier.g_fix_point_z_c_a0_neg (x : GTier) (h : 35 < (GTier.C x).length) : (GTier.C x)[35] = AV.bool x.fix.point.z.c.a0.neg := rfl
@[simp] theorem GTier.s_fix_point_z_c_a0_neg (x : GTier) (v : Bool) : splice (GTier.C x) 35 [AV.bool v] = GTier.C { x with fix := { x.fix with point := { x.fix.point with z := { x.fix.point.z with c := { x.fix.point.z.c with a0 := { x.fix.point.z.c.a0 with neg := v } } } } } } := rfl
@[simp] theorem GTier.q_fix_point_z_c_a0_mag (x : GTier) : (GTier.C x)[36]? = some (AV.str x.fix.point.z.c.a0.mag) := rfl
@[simp] theorem GTier.g_fix_point_z_c_a0_mag (x : GTier) (h : 36 < (GTier.C x).length) : (GTier.C x)[36] = AV.str x.fix.point.z.c.a0.mag := rfl
@[simp] theorem GTier.s_fix_point_z_c_a0_mag (x : GTier) (v : List UInt8) : splice (GTier.C x) 36 [AV.str v] = GTier.C { x with fix := { x.fix with point := { x.fix.point with z := { x.fix.point.z with c := { x.fix.point.z.c with a0 := { x.fix.point.z.c.a0 with mag := v } } } } } } := rfl
@[simp] theorem GTier.p_fix_point_z_c_a1 (x : GTier) : partOf true 2 37 (.agg (GTier.C x)) = some (.agg (GInt.C x.fix.point.z.c.a1)) := rfl
@[simp] theorem GTier.s_fix_point_z_c_a1 (x : GTier) (v : GInt) : splice (GTier.C x) 37 (GInt.C v) = GTier.C { x with fix := { x.fix with point := { x.fix.point with z := { x.fix.point.z with c := { x.fix.point.z.c with a1 := v } } } } } := rfl
@[simp] theorem GTier.q_fix_point_z_c_a1_neg (x : GTier) : (GTier.C x)[37]? = some (AV.bool x.fix.point.z.c.a1.neg) := rfl
@[simp] theorem GTier.g_fix_point_z_c_a1_neg (x : GTier) (h : 37 < (GTier.C x).length) : (GTier.C x)[37] = AV.bool x.fix.point.z.c.a1.neg := rfl
@[simp] theorem GTier.s_fix_point_z_c_a1_neg (x : GTier) (v : Bool) : splice (GTier.C x) 37 [AV.bool v] = GTier.C { x with fix := { x.fix with point := { x.fix.point with z := { x.fix.point.z with c := { x.fix.point.z.c with a1 := { x.fix.point.z.c.a1 with neg := v } } } } } } := rfl
@[simp] theorem GTier.q_fix_point_z_c_a1_mag (x : GTier) : (GTier.C x)[38]? = some (AV.str x.fix.point.z.c.a1.mag) := rfl
@[simp] theorem GTier.g_fix_point_z_c_a1_mag (x : GTier) (h : 38 < (GTier.C x).length) : (GTier.C x)[38] = AV.str x.fix.point.z.c.a1.mag := rfl
@[simp] theorem GTier.s_fix_point_z_c_a1_mag (x : GTier) (v : List UInt8) : splice (GTier.C x) 38 [AV.str v] = GTier.C { x with fix := { x.fix with point := { x.fix.point with z := { x.fix.point.z with c := { x.fix.point.z.c with a1 := { x.fix.point.z.c.a1 with mag := v } } } } } } := rfl
@[simp] theorem GTier.p_fix_point_z_c_a2 (x : GTier) : partOf true 2 39 (.agg (GTier.C x)) = some (.agg (GInt.C x.fix.point.z.c.a2)) := rfl
@[simp] theorem GTier.s_fix_point_z_c_a2 (x : GTier) (v : GInt) : splice (GTier.C x) 39 (GInt.C v) = GTier.C { x with fix := { x.fix with point := { x.fix.point with z := { x.fix.point.z with c := { x.fix.point.z.c with a2 := v } } } } } := rfl
@[simp] theorem GTier.q_fix_point_z_c_a2_neg (x : GTier) : (GTier.C x)[39]? = some (AV.bool x.fix.point.z.c.a2.neg) := rfl
@[simp] theorem GTier.g_fix_point_z_c_a2_neg (x : GTier) (h : 39 < (GTier.C x).length) : (GTier.C x)[39] = AV.bool x.fix.point.z.c.a2.neg := rfl
@[simp] theorem GTier.s_fix_point_z_c_a2_neg (x : GTier) (v : Bool) : splice (GTier.C x) 39 [AV.bool v] = GTier.C { x with fix := { x.fix with point := { x.fix.point with z := { x.fix.point.z with c := { x.fix.point.z.c with a2 := { x.fix.point.z.c.a2 with neg := v } } } } } } := rfl
@[simp] theorem GTier.q_fix_point_z_c_a2_mag (x : GTier) : (GTier.C x)[40]? = some (AV.str x.fix.point.z.c.a2.mag) := rfl
@[simp] theorem GTier.g_fix_point_z_c_a2_mag (x : GTier) (h : 40 < (GTier.C x).length) : (GTier.C x)[40] = AV.str x.fix.point.z.c.a2.mag := rfl
@[simp] theorem GTier.s_fix_point_z_c_a2_mag (x : GTier) (v : List UInt8) : splice (GTier.C x) 40 [AV.str v] = GTier.C { x with fix := { x.fix with point := { x.fix.point with z := { x.fix.point.z with c := { x.fix.point.z.c with a2 := { x.fix.point.z.c.a2 with mag := v } } } } } } := rfl
@[simp] theorem GTier.p_fix_point_z_c_a3 (x : GTier) : partOf true 2 41 (.agg (GTier.C x)) = some (.agg (GInt.C x.fix.point.z.c.a3)) := rfl
@[simp] theorem GTier.s_fix_point_z_c_a3 (x : GTier) (v : GInt) : splice (GTier.C x) 41 (GInt.C v) = GTier.C { x with fix := { x.fix with point := { x.fix.point with z := { x.fix.point.z with c := { x.fix.point.z.c with a3 := v } } } } } := rfl
@[simp] theorem GTier.q_fix_point_z_c_a3_neg (x : GTier) : (GTier.C x)[41]? = some (AV.bool x.fix.point.z.c.a3.neg) := rfl
@[simp] theorem GTier.g_fix_point_z_c_a3_neg (x : GTier) (h : 41 < (GTier.C x).length) : (GTier.C x)[41] = AV.bool x.fix.point.z.c.a3.neg := rfl
@[simp] theorem GTier.s_fix_point_z_c_a3_neg (x : GTier) (v : Bool) : splice (GTier.C x) 41 [AV.bool v] = GTier.C { x with fix := { x.fix with point := { x.fix.point with z := { x.fix.point.z with c := { x.fix.point.z.c with a3 := { x.fix.point.z.c.a3 with neg := v } } } } } } := rfl
@[simp] theorem GTier.q_fix_point_z_c_a3_mag (x : GTier) : (GTier.C x)[42]? = some (AV.str x.fix.point.z.c.a3.mag) := rfl
@[simp] theorem GTier.g_fix_point_z_c_a3_mag (x : GTier) (h : 42 < (GTier.C x).length) : (GTier.C x)[42] = AV.str x.fix.point.z.c.a3.mag := rfl
@[simp] theorem GTier.s_fix_point_z_c_a3_mag (x : GTier) (v : List UInt8) : splice (GTier.C x) 42 [AV.str v] = GTier.C { x with fix := { x.fix with point := { x.fix.point with z := { x.fix.point.z with c := { x.fix.point.z.c with a3 := { x.fix.point.z.c.a3 with mag := v } } } } } } := rfl
@[simp] theorem GTier.p_fix_point_z_d (x : GTier) : partOf true 2 43 (.agg (GTier.C x)) = some (.agg (GInt.C x.fix.point.z.d)) := rfl
@[simp] theorem GTier.s_fix_point_z_d (x : GTier) (v : GInt) : splice (GTier.C x) 43 (GInt.C v) = GTier.C { x with fix := { x.fix with point := { x.fix.point with z := { x.fix.point.z with d := v } } } } := rfl
@[simp] theorem GTier.q_fix_point_z_d_neg (x : GTier) : (GTier.C x)[43]? = some (AV.bool x.fix.point.z.d.neg) := rfl
@[simp] theorem GTier.g_fix_point_z_d_neg (x : GTier) (h : 43 < (GTier.C x).length) : (GTier.C x)[43] = AV.bool x.fix.point.z.d.neg := rfl
@[simp] theorem GTier.s_fix_point_z_d_neg (x : GTier) (v : Bool) : splice (GTier.C x) 43 [AV.bool v] = GTier.C { x with fix := { x.fix with point := { x.fix.point with z := { x.fix.point.z with d := { x.fix.point.z.d with neg := v } } } } } := rfl
@[simp] theorem GTier.q_fix_point_z_d_mag (x : GTier) : (GTier.C x)[44]? = some (AV.str x.fix.point.z.d.mag) := rfl
@[simp] theorem GTier.g_fix_point_z_d_mag (x : GTier) (h : 44 < (GTier.C x).length) : (GTier.C x)[44] = AV.str x.fix.point.z.d.mag := rfl
@[simp] theorem GTier.s_fix_point_z_d_mag (x : GTier) (v : List UInt8) : splice (GTier.C x) 44 [AV.str v] = GTier.C { x with fix := { x.fix with point := { x.fix.point with z := { x.fix.point.z with d := { x.fix.point.z.d with mag := v } } } } } := rfl
@[simp] theorem GTier.q_fix_refs (x : GTier) : (GTier.C x)[45]? = some (slA 2 (fun r => AV.agg (GRef.C r)) x.fix.refs) := rfl
@[simp] theorem GTier.g_fix_refs (x : GTier) (h : 45 < (GTier.C x).length) : (GTier.C x)[45] = slA 2 (fun r => AV.agg (GRef.C r)) x.fix.refs := rfl
@[simp] theorem GTier.s_fix_refs (x : GTier) (v : Sl GRef) : splice (GTier.C x) 45 [slA 2 (fun r => AV.agg (GRef.C r)) v] = GTier.C { x with fix := { x.fix with refs := v } } := rfl
@[simp] theorem GTier.p (x : GTier) : partOf true 46 0 (.agg (GTier.C x)) = some (.agg (GTier.C x)) := rfl
@[simp] theorem GTier.s (x v : GTier) : splice (GTier.C x) 0 (GTier.C v) = GTier.C v := rfl
@[simp] theorem GTier.untip (x : GTier) : (GTier.C x).map AV.untip = GTier.C x := by simp [GTier.C]
@[simp] theorem GTier.fzN (x : GTier) {h : Store} {d : Nat} : freezeN h (d + 2) (.agg (GTier.C x)) = some (.agg (GTier.C x)) := by
  show ((GTier.C x).mapM (freezeN h (d + 1))).map AV.agg = _
  rw [mapM_id]
  · rfl
  · intro c hc
    simp only [GTier.C, List.mem_cons, List.not_mem_nil, or_false] at hc
    rcases hc with rfl | rfl | rfl | rfl | rfl | rfl | rfl | rfl | rfl | rfl | rfl | rfl | rfl | rfl | rfl | rfl | rfl | rfl | rfl | rfl | rfl | rfl | rfl | rfl | rfl | rfl | rfl | rfl | rfl | rfl | rfl | rfl | rfl | rfl | rfl | rfl | rfl | rfl | rfl | rfl | rfl | rfl | rfl | rfl | rfl | rfl <;> simp
@[simp] theorem GTier.fz (x : GTier) {h : Store} : freeze h (.agg (GTier.C x)) = some (.agg (GTier.C x)) := GTier.fzN x
@[simp] theorem GTier.rN (x : GTier) {h : Store} {d : Nat} : reachN h (d + 2) (.agg (GTier.C x)) = [] := by
  show (GTier.C x).flatMap (reachN h (d + 1)) = []
  simp [GTier.C]
@[simp] theorem GTier.clN (x : GTier) {d : Nat} : AV.closedN (d + 2) (.agg (GTier.C x)) = true := by
  show (GTier.C x).all (AV.closedN (d + 1)) = true
  simp [GTier.C]
@[simp] theorem GTier.cl (x : GTier) : (AV.agg (GTier.C x)).closed = true := GTier.clN x
@[simp] theorem GTier.low (x : GTier) {m : Nat} : (AV.agg (GTier.C x)).lower m = true := by
  show (GTier.C x).all (AV.lowerN m 3) = true
  simp [GTier.C, AV.lowerN]

/-- A design. -/
structure GDesign where
  name : List UInt8
  order : Int
  mirror : Bool
  tiers : Sl GTier
  deriving DecidableEq, Inhabited
def GDesign.C (x : GDesign) : List AV := [AV.str x.name, AV.int .i64 x.order, AV.bool x.mirror, slA 46 (fun t => AV.agg (GTier.C t)) x.tiers]
@[simp] theorem GDesign.len (x : GDesign) : (GDesign.C x).length = 4 := rfl
@[simp] theorem GDesign.q_name (x : GDesign) : (GDesign.C x)[0]? = some (AV.str x.name) := rfl
@[simp] theorem GDesign.g_name (x : GDesign) (h : 0 < (GDesign.C x).length) : (GDesign.C x)[0] = AV.str x.name := rfl
@[simp] theorem GDesign.s_name (x : GDesign) (v : List UInt8) : splice (GDesign.C x) 0 [AV.str v] = GDesign.C { x with name := v } := rfl
@[simp] theorem GDesign.q_order (x : GDesign) : (GDesign.C x)[1]? = some (AV.int .i64 x.order) := rfl
@[simp] theorem GDesign.g_order (x : GDesign) (h : 1 < (GDesign.C x).length) : (GDesign.C x)[1] = AV.int .i64 x.order := rfl
@[simp] theorem GDesign.s_order (x : GDesign) (v : Int) : splice (GDesign.C x) 1 [AV.int .i64 v] = GDesign.C { x with order := v } := rfl
@[simp] theorem GDesign.q_mirror (x : GDesign) : (GDesign.C x)[2]? = some (AV.bool x.mirror) := rfl
@[simp] theorem GDesign.g_mirror (x : GDesign) (h : 2 < (GDesign.C x).length) : (GDesign.C x)[2] = AV.bool x.mirror := rfl
@[simp] theorem GDesign.s_mirror (x : GDesign) (v : Bool) : splice (GDesign.C x) 2 [AV.bool v] = GDesign.C { x with mirror := v } := rfl
@[simp] theorem GDesign.q_tiers (x : GDesign) : (GDesign.C x)[3]? = some (slA 46 (fun t => AV.agg (GTier.C t)) x.tiers) := rfl
@[simp] theorem GDesign.g_tiers (x : GDesign) (h : 3 < (GDesign.C x).length) : (GDesign.C x)[3] = slA 46 (fun t => AV.agg (GTier.C t)) x.tiers := rfl
@[simp] theorem GDesign.s_tiers (x : GDesign) (v : Sl GTier) : splice (GDesign.C x) 3 [slA 46 (fun t => AV.agg (GTier.C t)) v] = GDesign.C { x with tiers := v } := rfl
@[simp] theorem GDesign.p (x : GDesign) : partOf true 4 0 (.agg (GDesign.C x)) = some (.agg (GDesign.C x)) := rfl
@[simp] theorem GDesign.s (x v : GDesign) : splice (GDesign.C x) 0 (GDesign.C v) = GDesign.C v := rfl
@[simp] theorem GDesign.untip (x : GDesign) : (GDesign.C x).map AV.untip = GDesign.C x := by simp [GDesign.C]
@[simp] theorem GDesign.fzN (x : GDesign) {h : Store} {d : Nat} : freezeN h (d + 2) (.agg (GDesign.C x)) = some (.agg (GDesign.C x)) := by
  show ((GDesign.C x).mapM (freezeN h (d + 1))).map AV.agg = _
  rw [mapM_id]
  · rfl
  · intro c hc
    simp only [GDesign.C, List.mem_cons, List.not_mem_nil, or_false] at hc
    rcases hc with rfl | rfl | rfl | rfl <;> simp
@[simp] theorem GDesign.fz (x : GDesign) {h : Store} : freeze h (.agg (GDesign.C x)) = some (.agg (GDesign.C x)) := GDesign.fzN x
@[simp] theorem GDesign.rN (x : GDesign) {h : Store} {d : Nat} : reachN h (d + 2) (.agg (GDesign.C x)) = [] := by
  show (GDesign.C x).flatMap (reachN h (d + 1)) = []
  simp [GDesign.C]
@[simp] theorem GDesign.clN (x : GDesign) {d : Nat} : AV.closedN (d + 2) (.agg (GDesign.C x)) = true := by
  show (GDesign.C x).all (AV.closedN (d + 1)) = true
  simp [GDesign.C]
@[simp] theorem GDesign.cl (x : GDesign) : (AV.agg (GDesign.C x)).closed = true := GDesign.clN x
@[simp] theorem GDesign.low (x : GDesign) {m : Nat} : (AV.agg (GDesign.C x)).lower m = true := by
  show (GDesign.C x).all (AV.lowerN m 3) = true
  simp [GDesign.C, AV.lowerN]

/-- A setting. -/
structure GSetting where
  h : Int
  v : Int
  index : Int
  deriving DecidableEq, Inhabited
def GSetting.C (x : GSetting) : List AV := [AV.int .i64 x.h, AV.int .i64 x.v, AV.int .i64 x.index]
@[simp] theorem GSetting.len (x : GSetting) : (GSetting.C x).length = 3 := rfl
@[simp] theorem GSetting.q_h (x : GSetting) : (GSetting.C x)[0]? = some (AV.int .i64 x.h) := rfl
@[simp] theorem GSetting.g_h (x : GSetting) (h : 0 < (GSetting.C x).length) : (GSetting.C x)[0] = AV.int .i64 x.h := rfl
@[simp] theorem GSetting.s_h (x : GSetting) (v : Int) : splice (GSetting.C x) 0 [AV.int .i64 v] = GSetting.C { x with h := v } := rfl
@[simp] theorem GSetting.q_v (x : GSetting) : (GSetting.C x)[1]? = some (AV.int .i64 x.v) := rfl
@[simp] theorem GSetting.g_v (x : GSetting) (h : 1 < (GSetting.C x).length) : (GSetting.C x)[1] = AV.int .i64 x.v := rfl
@[simp] theorem GSetting.s_v (x : GSetting) (v : Int) : splice (GSetting.C x) 1 [AV.int .i64 v] = GSetting.C { x with v := v } := rfl
@[simp] theorem GSetting.q_index (x : GSetting) : (GSetting.C x)[2]? = some (AV.int .i64 x.index) := rfl
@[simp] theorem GSetting.g_index (x : GSetting) (h : 2 < (GSetting.C x).length) : (GSetting.C x)[2] = AV.int .i64 x.index := rfl
@[simp] theorem GSetting.s_index (x : GSetting) (v : Int) : splice (GSetting.C x) 2 [AV.int .i64 v] = GSetting.C { x with index := v } := rfl
@[simp] theorem GSetting.p (x : GSetting) : partOf true 3 0 (.agg (GSetting.C x)) = some (.agg (GSetting.C x)) := rfl
@[simp] theorem GSetting.s (x v : GSetting) : splice (GSetting.C x) 0 (GSetting.C v) = GSetting.C v := rfl
@[simp] theorem GSetting.untip (x : GSetting) : (GSetting.C x).map AV.untip = GSetting.C x := by simp [GSetting.C]
@[simp] theorem GSetting.fzN (x : GSetting) {h : Store} {d : Nat} : freezeN h (d + 2) (.agg (GSetting.C x)) = some (.agg (GSetting.C x)) := by
  show ((GSetting.C x).mapM (freezeN h (d + 1))).map AV.agg = _
  rw [mapM_id]
  · rfl
  · intro c hc
    simp only [GSetting.C, List.mem_cons, List.not_mem_nil, or_false] at hc
    rcases hc with rfl | rfl | rfl <;> simp
@[simp] theorem GSetting.fz (x : GSetting) {h : Store} : freeze h (.agg (GSetting.C x)) = some (.agg (GSetting.C x)) := GSetting.fzN x
@[simp] theorem GSetting.rN (x : GSetting) {h : Store} {d : Nat} : reachN h (d + 2) (.agg (GSetting.C x)) = [] := by
  show (GSetting.C x).flatMap (reachN h (d + 1)) = []
  simp [GSetting.C]
@[simp] theorem GSetting.clN (x : GSetting) {d : Nat} : AV.closedN (d + 2) (.agg (GSetting.C x)) = true := by
  show (GSetting.C x).all (AV.closedN (d + 1)) = true
  simp [GSetting.C]
@[simp] theorem GSetting.cl (x : GSetting) : (AV.agg (GSetting.C x)).closed = true := GSetting.clN x
@[simp] theorem GSetting.low (x : GSetting) {m : Nat} : (AV.agg (GSetting.C x)).lower m = true := by
  show (GSetting.C x).all (AV.lowerN m 3) = true
  simp [GSetting.C, AV.lowerN]
@[simp] theorem GSetting.flat (x : GSetting) : (AV.agg (GSetting.C x)).flat = true := rfl
@[simp] theorem GSetting.eqc (x y : GSetting) : eqCells [.ti, .ti, .ti] (GSetting.C x) (GSetting.C y) = some (decide (x = y)) := by
  rcases x with ⟨xh, xv, xindex⟩
  rcases y with ⟨yh, yv, yindex⟩
  simp [GSetting.C, Bool.beq_eq_decide_eq]
  try (rw [Bool.eq_iff_iff]; simp [and_assoc])

/-- A facet. -/
structure GFacet where
  tier : List UInt8
  pos : GSetting
  depth : GNum
  deriving DecidableEq, Inhabited
def GFacet.C (x : GFacet) : List AV := [AV.str x.tier, AV.int .i64 x.pos.h, AV.int .i64 x.pos.v, AV.int .i64 x.pos.index, AV.bool x.depth.c.a0.neg, AV.str x.depth.c.a0.mag, AV.bool x.depth.c.a1.neg, AV.str x.depth.c.a1.mag, AV.bool x.depth.c.a2.neg, AV.str x.depth.c.a2.mag, AV.bool x.depth.c.a3.neg, AV.str x.depth.c.a3.mag, AV.bool x.depth.d.neg, AV.str x.depth.d.mag]
@[simp] theorem GFacet.len (x : GFacet) : (GFacet.C x).length = 14 := rfl
@[simp] theorem GFacet.q_tier (x : GFacet) : (GFacet.C x)[0]? = some (AV.str x.tier) := rfl
@[simp] theorem GFacet.g_tier (x : GFacet) (h : 0 < (GFacet.C x).length) : (GFacet.C x)[0] = AV.str x.tier := rfl
@[simp] theorem GFacet.s_tier (x : GFacet) (v : List UInt8) : splice (GFacet.C x) 0 [AV.str v] = GFacet.C { x with tier := v } := rfl
@[simp] theorem GFacet.p_pos (x : GFacet) : partOf true 3 1 (.agg (GFacet.C x)) = some (.agg (GSetting.C x.pos)) := rfl
@[simp] theorem GFacet.s_pos (x : GFacet) (v : GSetting) : splice (GFacet.C x) 1 (GSetting.C v) = GFacet.C { x with pos := v } := rfl
@[simp] theorem GFacet.q_pos_h (x : GFacet) : (GFacet.C x)[1]? = some (AV.int .i64 x.pos.h) := rfl
@[simp] theorem GFacet.g_pos_h (x : GFacet) (h : 1 < (GFacet.C x).length) : (GFacet.C x)[1] = AV.int .i64 x.pos.h := rfl
@[simp] theorem GFacet.s_pos_h (x : GFacet) (v : Int) : splice (GFacet.C x) 1 [AV.int .i64 v] = GFacet.C { x with pos := { x.pos with h := v } } := rfl
@[simp] theorem GFacet.q_pos_v (x : GFacet) : (GFacet.C x)[2]? = some (AV.int .i64 x.pos.v) := rfl
@[simp] theorem GFacet.g_pos_v (x : GFacet) (h : 2 < (GFacet.C x).length) : (GFacet.C x)[2] = AV.int .i64 x.pos.v := rfl
@[simp] theorem GFacet.s_pos_v (x : GFacet) (v : Int) : splice (GFacet.C x) 2 [AV.int .i64 v] = GFacet.C { x with pos := { x.pos with v := v } } := rfl
@[simp] theorem GFacet.q_pos_index (x : GFacet) : (GFacet.C x)[3]? = some (AV.int .i64 x.pos.index) := rfl
@[simp] theorem GFacet.g_pos_index (x : GFacet) (h : 3 < (GFacet.C x).length) : (GFacet.C x)[3] = AV.int .i64 x.pos.index := rfl
@[simp] theorem GFacet.s_pos_index (x : GFacet) (v : Int) : splice (GFacet.C x) 3 [AV.int .i64 v] = GFacet.C { x with pos := { x.pos with index := v } } := rfl
@[simp] theorem GFacet.p_depth (x : GFacet) : partOf true 10 4 (.agg (GFacet.C x)) = some (.agg (GNum.C x.depth)) := rfl
@[simp] theorem GFacet.s_depth (x : GFacet) (v : GNum) : splice (GFacet.C x) 4 (GNum.C v) = GFacet.C { x with depth := v } := rfl
@[simp] theorem GFacet.p_depth_c (x : GFacet) : partOf true 8 4 (.agg (GFacet.C x)) = some (.agg (GArr.C x.depth.c)) := rfl
@[simp] theorem GFacet.s_depth_c (x : GFacet) (v : GArr) : splice (GFacet.C x) 4 (GArr.C v) = GFacet.C { x with depth := { x.depth with c := v } } := rfl
@[simp] theorem GFacet.p_depth_c_a0 (x : GFacet) : partOf true 2 4 (.agg (GFacet.C x)) = some (.agg (GInt.C x.depth.c.a0)) := rfl
@[simp] theorem GFacet.s_depth_c_a0 (x : GFacet) (v : GInt) : splice (GFacet.C x) 4 (GInt.C v) = GFacet.C { x with depth := { x.depth with c := { x.depth.c with a0 := v } } } := rfl
@[simp] theorem GFacet.q_depth_c_a0_neg (x : GFacet) : (GFacet.C x)[4]? = some (AV.bool x.depth.c.a0.neg) := rfl
@[simp] theorem GFacet.g_depth_c_a0_neg (x : GFacet) (h : 4 < (GFacet.C x).length) : (GFacet.C x)[4] = AV.bool x.depth.c.a0.neg := rfl
@[simp] theorem GFacet.s_depth_c_a0_neg (x : GFacet) (v : Bool) : splice (GFacet.C x) 4 [AV.bool v] = GFacet.C { x with depth := { x.depth with c := { x.depth.c with a0 := { x.depth.c.a0 with neg := v } } } } := rfl
@[simp] theorem GFacet.q_depth_c_a0_mag (x : GFacet) : (GFacet.C x)[5]? = some (AV.str x.depth.c.a0.mag) := rfl
@[simp] theorem GFacet.g_depth_c_a0_mag (x : GFacet) (h : 5 < (GFacet.C x).length) : (GFacet.C x)[5] = AV.str x.depth.c.a0.mag := rfl
@[simp] theorem GFacet.s_depth_c_a0_mag (x : GFacet) (v : List UInt8) : splice (GFacet.C x) 5 [AV.str v] = GFacet.C { x with depth := { x.depth with c := { x.depth.c with a0 := { x.depth.c.a0 with mag := v } } } } := rfl
@[simp] theorem GFacet.p_depth_c_a1 (x : GFacet) : partOf true 2 6 (.agg (GFacet.C x)) = some (.agg (GInt.C x.depth.c.a1)) := rfl
@[simp] theorem GFacet.s_depth_c_a1 (x : GFacet) (v : GInt) : splice (GFacet.C x) 6 (GInt.C v) = GFacet.C { x with depth := { x.depth with c := { x.depth.c with a1 := v } } } := rfl
@[simp] theorem GFacet.q_depth_c_a1_neg (x : GFacet) : (GFacet.C x)[6]? = some (AV.bool x.depth.c.a1.neg) := rfl
@[simp] theorem GFacet.g_depth_c_a1_neg (x : GFacet) (h : 6 < (GFacet.C x).length) : (GFacet.C x)[6] = AV.bool x.depth.c.a1.neg := rfl
@[simp] theorem GFacet.s_depth_c_a1_neg (x : GFacet) (v : Bool) : splice (GFacet.C x) 6 [AV.bool v] = GFacet.C { x with depth := { x.depth with c := { x.depth.c with a1 := { x.depth.c.a1 with neg := v } } } } := rfl
@[simp] theorem GFacet.q_depth_c_a1_mag (x : GFacet) : (GFacet.C x)[7]? = some (AV.str x.depth.c.a1.mag) := rfl
@[simp] theorem GFacet.g_depth_c_a1_mag (x : GFacet) (h : 7 < (GFacet.C x).length) : (GFacet.C x)[7] = AV.str x.depth.c.a1.mag := rfl
@[simp] theorem GFacet.s_depth_c_a1_mag (x : GFacet) (v : List UInt8) : splice (GFacet.C x) 7 [AV.str v] = GFacet.C { x with depth := { x.depth with c := { x.depth.c with a1 := { x.depth.c.a1 with mag := v } } } } := rfl
@[simp] theorem GFacet.p_depth_c_a2 (x : GFacet) : partOf true 2 8 (.agg (GFacet.C x)) = some (.agg (GInt.C x.depth.c.a2)) := rfl
@[simp] theorem GFacet.s_depth_c_a2 (x : GFacet) (v : GInt) : splice (GFacet.C x) 8 (GInt.C v) = GFacet.C { x with depth := { x.depth with c := { x.depth.c with a2 := v } } } := rfl
@[simp] theorem GFacet.q_depth_c_a2_neg (x : GFacet) : (GFacet.C x)[8]? = some (AV.bool x.depth.c.a2.neg) := rfl
@[simp] theorem GFacet.g_depth_c_a2_neg (x : GFacet) (h : 8 < (GFacet.C x).length) : (GFacet.C x)[8] = AV.bool x.depth.c.a2.neg := rfl
@[simp] theorem GFacet.s_depth_c_a2_neg (x : GFacet) (v : Bool) : splice (GFacet.C x) 8 [AV.bool v] = GFacet.C { x with depth := { x.depth with c := { x.depth.c with a2 := { x.depth.c.a2 with neg := v } } } } := rfl
@[simp] theorem GFacet.q_depth_c_a2_mag (x : GFacet) : (GFacet.C x)[9]? = some (AV.str x.depth.c.a2.mag) := rfl
@[simp] theorem GFacet.g_depth_c_a2_mag (x : GFacet) (h : 9 < (GFacet.C x).length) : (GFacet.C x)[9] = AV.str x.depth.c.a2.mag := rfl
@[simp] theorem GFacet.s_depth_c_a2_mag (x : GFacet) (v : List UInt8) : splice (GFacet.C x) 9 [AV.str v] = GFacet.C { x with depth := { x.depth with c := { x.depth.c with a2 := { x.depth.c.a2 with mag := v } } } } := rfl
@[simp] theorem GFacet.p_depth_c_a3 (x : GFacet) : partOf true 2 10 (.agg (GFacet.C x)) = some (.agg (GInt.C x.depth.c.a3)) := rfl
@[simp] theorem GFacet.s_depth_c_a3 (x : GFacet) (v : GInt) : splice (GFacet.C x) 10 (GInt.C v) = GFacet.C { x with depth := { x.depth with c := { x.depth.c with a3 := v } } } := rfl
@[simp] theorem GFacet.q_depth_c_a3_neg (x : GFacet) : (GFacet.C x)[10]? = some (AV.bool x.depth.c.a3.neg) := rfl
@[simp] theorem GFacet.g_depth_c_a3_neg (x : GFacet) (h : 10 < (GFacet.C x).length) : (GFacet.C x)[10] = AV.bool x.depth.c.a3.neg := rfl
@[simp] theorem GFacet.s_depth_c_a3_neg (x : GFacet) (v : Bool) : splice (GFacet.C x) 10 [AV.bool v] = GFacet.C { x with depth := { x.depth with c := { x.depth.c with a3 := { x.depth.c.a3 with neg := v } } } } := rfl
@[simp] theorem GFacet.q_depth_c_a3_mag (x : GFacet) : (GFacet.C x)[11]? = some (AV.str x.depth.c.a3.mag) := rfl
@[simp] theorem GFacet.g_depth_c_a3_mag (x : GFacet) (h : 11 < (GFacet.C x).length) : (GFacet.C x)[11] = AV.str x.depth.c.a3.mag := rfl
@[simp] theorem GFacet.s_depth_c_a3_mag (x : GFacet) (v : List UInt8) : splice (GFacet.C x) 11 [AV.str v] = GFacet.C { x with depth := { x.depth with c := { x.depth.c with a3 := { x.depth.c.a3 with mag := v } } } } := rfl
@[simp] theorem GFacet.p_depth_d (x : GFacet) : partOf true 2 12 (.agg (GFacet.C x)) = some (.agg (GInt.C x.depth.d)) := rfl
@[simp] theorem GFacet.s_depth_d (x : GFacet) (v : GInt) : splice (GFacet.C x) 12 (GInt.C v) = GFacet.C { x with depth := { x.depth with d := v } } := rfl
@[simp] theorem GFacet.q_depth_d_neg (x : GFacet) : (GFacet.C x)[12]? = some (AV.bool x.depth.d.neg) := rfl
@[simp] theorem GFacet.g_depth_d_neg (x : GFacet) (h : 12 < (GFacet.C x).length) : (GFacet.C x)[12] = AV.bool x.depth.d.neg := rfl
@[simp] theorem GFacet.s_depth_d_neg (x : GFacet) (v : Bool) : splice (GFacet.C x) 12 [AV.bool v] = GFacet.C { x with depth := { x.depth with d := { x.depth.d with neg := v } } } := rfl
@[simp] theorem GFacet.q_depth_d_mag (x : GFacet) : (GFacet.C x)[13]? = some (AV.str x.depth.d.mag) := rfl
@[simp] theorem GFacet.g_depth_d_mag (x : GFacet) (h : 13 < (GFacet.C x).length) : (GFacet.C x)[13] = AV.str x.depth.d.mag := rfl
@[simp] theorem GFacet.s_depth_d_mag (x : GFacet) (v : List UInt8) : splice (GFacet.C x) 13 [AV.str v] = GFacet.C { x with depth := { x.depth with d := { x.depth.d with mag := v } } } := rfl
@[simp] theorem GFacet.p (x : GFacet) : partOf true 14 0 (.agg (GFacet.C x)) = some (.agg (GFacet.C x)) := rfl
@[simp] theorem GFacet.s (x v : GFacet) : splice (GFacet.C x) 0 (GFacet.C v) = GFacet.C v := rfl
@[simp] theorem GFacet.untip (x : GFacet) : (GFacet.C x).map AV.untip = GFacet.C x := by simp [GFacet.C]
@[simp] theorem GFacet.fzN (x : GFacet) {h : Store} {d : Nat} : freezeN h (d + 2) (.agg (GFacet.C x)) = some (.agg (GFacet.C x)) := by
  show ((GFacet.C x).mapM (freezeN h (d + 1))).map AV.agg = _
  rw [mapM_id]
  · rfl
  · intro c hc
    simp only [GFacet.C, List.mem_cons, List.not_mem_nil, or_false] at hc
    rcases hc with rfl | rfl | rfl | rfl | rfl | rfl | rfl | rfl | rfl | rfl | rfl | rfl | rfl | rfl <;> simp
@[simp] theorem GFacet.fz (x : GFacet) {h : Store} : freeze h (.agg (GFacet.C x)) = some (.agg (GFacet.C x)) := GFacet.fzN x
@[simp] theorem GFacet.rN (x : GFacet) {h : Store} {d : Nat} : reachN h (d + 2) (.agg (GFacet.C x)) = [] := by
  show (GFacet.C x).flatMap (reachN h (d + 1)) = []
  simp [GFacet.C]
@[simp] theorem GFacet.clN (x : GFacet) {d : Nat} : AV.closedN (d + 2) (.agg (GFacet.C x)) = true := by
  show (GFacet.C x).all (AV.closedN (d + 1)) = true
  simp [GFacet.C]
@[simp] theorem GFacet.cl (x : GFacet) : (AV.agg (GFacet.C x)).closed = true := GFacet.clN x
@[simp] theorem GFacet.low (x : GFacet) {m : Nat} : (AV.agg (GFacet.C x)).lower m = true := by
  show (GFacet.C x).all (AV.lowerN m 3) = true
  simp [GFacet.C, AV.lowerN]
@[simp] theorem GFacet.flat (x : GFacet) : (AV.agg (GFacet.C x)).flat = true := rfl
@[simp] theorem GFacet.eqc (x y : GFacet) : eqCells [.ts, .ti, .ti, .ti, .tb, .ts, .tb, .ts, .tb, .ts, .tb, .ts, .tb, .ts] (GFacet.C x) (GFacet.C y) = some (decide (x = y)) := by
  rcases x with ⟨xtier, ⟨xposh, xposv, xposindex⟩, ⟨⟨⟨xdepthca0neg, xdepthca0mag⟩, ⟨xdepthca1neg, xdepthca1mag⟩, ⟨xdepthca2neg, xdepthca2mag⟩, ⟨xdepthca3neg, xdepthca3mag⟩⟩, ⟨xdepthdneg, xdepthdmag⟩⟩⟩
  rcases y with ⟨ytier, ⟨yposh, yposv, yposindex⟩, ⟨⟨⟨ydepthca0neg, ydepthca0mag⟩, ⟨ydepthca1neg, ydepthca1mag⟩, ⟨ydepthca2neg, ydepthca2mag⟩, ⟨ydepthca3neg, ydepthca3mag⟩⟩, ⟨ydepthdneg, ydepthdmag⟩⟩⟩
  simp [GFacet.C, Bool.beq_eq_decide_eq]
  try (rw [Bool.eq_iff_iff]; simp [and_assoc])

end Go.Proofs.YteaopgkajbfkeaaGreatDoor
