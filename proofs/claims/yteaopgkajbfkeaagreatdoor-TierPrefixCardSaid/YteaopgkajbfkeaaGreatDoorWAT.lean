/- What the reader of written numbers gives: values and terms. What the reader of written numbers gives: values and terms. What reading a written number gives. What printing an exact number gives. Which texts are integers of the language, and their values. The written value of a number. The written text of a fix. The text of a fix, and the error. The wheel's positions. The positions of a tier and the orbit of an index. Angles, and the tests of a tier's indices. The parts of a tier's fault. A tier's fault. -/
import Derived.Test.YteaopgkajbfkeaaGreatDoorWAG
import Derived.Test.YteaopgkajbfkeaaGreatDoorWAN
import Derived.Test.YteaopgkajbfkeaaGreatDoorWAS
import Derived.Test.YteaopgkajbfkeaaGreatDoorWAR
import Derived.Test.YteaopgkajbfkeaaGreatDoorWAL
import Derived.Test.YteaopgkajbfkeaaGreatDoorWAQ
set_option linter.unusedSimpArgs false
set_option linter.unusedVariables false
namespace Go.Proofs.YteaopgkajbfkeaaGreatDoor
open Go

def RS.root (r : RS) : ZNum × Bool × RS :=
  if (r.passed [114, 50]).1 then (rootN 2, true, (r.passed [114, 50]).2) else if (r.passed [114, 51]).1 then (rootN 3, true, (r.passed [114, 51]).2)
  else if (r.passed [114, 54]).1 then (rootN 6, true, (r.passed [114, 54]).2) else (intN 1, false, r)
def mkR (n d : Int) (r : RS) : ZNum × RS := if d = 0 then (intN 0, r.fail 10) else (low ⟨n, 0, 0, 0, d⟩, r)
def zerosOf (s : List UInt8) : List UInt8 := if s.dropWhile (· == 48) = [] then [48] else s.dropWhile (· == 48)
def RS.value (r : RS) : ZNum × RS :=
  let n := r.integer
  if (n.2.passed [47]).1 then mkR n.1 (n.2.passed [47]).2.integer.1 (n.2.passed [47]).2.integer.2
  else if (n.2.passed [46]).1 then
    let s := (n.2.passed [46]).2.digits
    if s.1 = [] ∨ 20 < s.1.length then (intN 0, s.2.fail 4) else mkR (n.1 * 10 ^ s.1.length + (parseI (zerosOf s.1)).1) (10 ^ s.1.length) s.2
  else mkR n.1 1 n.2
def RS.term (r : RS) : ZNum × RS :=
  if r.root.2.1 then (r.root.1, r.root.2.2) else (mulZ r.root.2.2.value.1 r.root.2.2.value.2.root.1, r.root.2.2.value.2.root.2.2)

theorem passed_false {r : RS} {p : List UInt8} (h : (r.passed p).1 = false) : (r.passed p).2 = r := by
  unfold RS.passed at *; split at h <;> simp_all

section
variable {h : Store} {b : Nat}

theorem m_root {rest : List UInt8} {e : Int} (hb : getB h b = some (rd rest e)) : Cm.m f_field_reader_root [.ref b 0] h = some (.tup [numA (ofN (RS.root ⟨rest, e⟩).1), .bool (RS.root ⟨rest, e⟩).2.1], h.set b (RS.root ⟨rest, e⟩).2.2.blk) := by
  have hl := lt_of_getB hb
  refine m_rd t_field_reader_root hb (Gives_of rfl ?_)
  have hp : ∀ p J, Cm.m f_field_reader_passed [.ref b 0, .str p] (stJ h b (rd rest e) J) = some (.bool (RS.passed ⟨rest, e⟩ p).1, stJ h b (RS.passed ⟨rest, e⟩ p).2.blk J) := by
    intro p J
    rw [m_passed (rest := rest) (e := e) (by simp [hl]) p]
    simp [hl]
  have r2 := q_Root (k := 2) (.inl rfl)
  have r3 := q_Root (k := 3) (.inr (.inl rfl))
  have r6 := q_Root (k := 6) (.inr (.inr rfl))
  have o1 := q_field_Of (k := 1) (by omega) (by omega)
  cases h2 : (RS.passed ⟨rest, e⟩ [114, 50]).1 with
  | true =>
    simp [e_field_reader_root, l_field_reader_root_0, V_round, bytesOf, hp, h2, r2, RS.root]
    exact ⟨_, rfl⟩
  | false =>
  have f2 := passed_false h2
  cases h3 : (RS.passed ⟨rest, e⟩ [114, 51]).1 with
  | true =>
    simp [e_field_reader_root, l_field_reader_root_0, V_round, bytesOf, hp, h2, f2, h3, r3, RS.root]
    exact ⟨_, rfl⟩
  | false =>
  have f3 := passed_false h3
  cases h6 : (RS.passed ⟨rest, e⟩ [114, 54]).1 with
  | true =>
    simp [e_field_reader_root, l_field_reader_root_0, V_round, bytesOf, hp, h2, f2, h3, f3, h6, r6, RS.root]
    exact ⟨_, rfl⟩
  | false =>
  have f6 := passed_false h6
  simp [e_field_reader_root, l_field_reader_root_0, V_round, bytesOf, hp, h2, f2, h3, f3, h6, f6, o1, RS.root]
  exact ⟨_, rfl⟩

theorem dec_Bd {d : List UInt8} (hA : AllDig d) {k : Nat} (h : d.length ≤ k) : Bd k (decVal d : Int) := by
  have h1 := decVal_lt d hA
  have h4 : (10 : Nat) ^ d.length ≤ 10 ^ k := Nat.pow_le_pow_right (by omega) h
  have h5 := @pow10_256 k
  unfold Bd
  simp only [Int.natAbs_natCast]
  exact Nat.lt_of_lt_of_le h1 (Nat.le_trans h4 h5)
theorem parseI_Bd (s : List UInt8) : Bd 400 (parseI s).1 := by
  have key : ∀ (neg : Bool) (d : List UInt8), Bd 400 (if d = [] ∨ (d.head? = some 48 ∧ (1 < d.length ∨ neg = true)) then ((0, 4) : Int × Int) else if d.all isDig = false then (0, 4) else if 400 < d.length then (0, 3) else (if neg then -(decVal d : Int) else decVal d, 0)).1 := by
    intro neg d
    split
    · exact Bd.zero
    · split
      · exact Bd.zero
      · split
        · exact Bd.zero
        · rename_i h2 h3
          have hA : AllDig d := allDig_iff.1 (by rwa [Bool.not_eq_false] at h2)
          have := dec_Bd hA (show d.length ≤ 400 by omega)
          split
          · exact this.neg
          · exact this
  exact key _ _

theorem integer_Bd (r : RS) : Bd 400 r.integer.1 := parseI_Bd _
theorem digits_len (r : RS) : r.digits.2.rest.length ≤ r.rest.length := (List.dropWhile_sublist _).length_le
theorem digits_len1 (r : RS) : r.digits.1.length ≤ r.rest.length := (List.takeWhile_sublist _).length_le
theorem fail_rest (r : RS) (x : Int) : (r.fail x).rest = r.rest := rfl
theorem integer_len (r : RS) : r.integer.2.rest.length ≤ r.rest.length := by
  have := digits_len r
  simp only [RS.integer]
  split
  · exact this
  · exact this
theorem passed_len (r : RS) (p : List UInt8) : (r.passed p).2.rest.length ≤ r.rest.length := by
  unfold RS.passed; split
  · simp
  · exact Nat.le_refl _
theorem passed_lt {r : RS} {p : List UInt8} (h : (r.passed p).1 = true) : (r.passed p).2.rest.length + p.length = r.rest.length := by
  unfold RS.passed at *
  split at h
  · rename_i hp
    rw [if_pos hp]
    have := (List.isPrefixOf_iff_prefix.1 hp).length_le
    simp; omega
  · cases h
end
end Go.Proofs.YteaopgkajbfkeaaGreatDoor
namespace Go.Proofs.YteaopgkajbfkeaaGreatDoor
open Go

theorem B_int {n d : Int} {k : Nat} (hn : Bd k n) (hd : Bd k d) : ZNum.B k ⟨n, 0, 0, 0, d⟩ := ⟨hn, Bd.zero, Bd.zero, Bd.zero, hd⟩
theorem Ok_intN (k : Int) : (intN k).Ok := ⟨by simp [intN], by simp [gcd5, intN]⟩
theorem B_intN {k : Int} {n : Nat} (h : Bd n k) (hn : 1 ≤ n) : (intN k).B n := ⟨h, Bd.zero, Bd.zero, Bd.zero, by
  unfold Bd intN
  have : 256 ^ 1 ≤ 256 ^ n := Nat.pow_le_pow_right (by omega) hn
  simp; omega⟩
theorem Ok_rootN (k : Int) : (rootN k).Ok := ⟨by simp [rootN], by simp [gcd5, rootN]⟩
theorem B_rootN {k : Int} : (rootN k).B 1 := by
  have h01 : ∀ c : Prop, [Decidable c] → Bd 1 (if c then 1 else 0) := by
    intro c _; split
    · unfold Bd; simp
    · exact Bd.zero
  exact ⟨Bd.zero, h01 _, h01 _, h01 _, by unfold Bd rootN; simp⟩
theorem Bd_one {n : Nat} (h : 1 ≤ n) : Bd n 1 := by
  unfold Bd
  have : 256 ^ 1 ≤ 256 ^ n := Nat.pow_le_pow_right (by omega) h
  simp; omega

theorem zerosOf_len (s : List UInt8) : (zerosOf s).length ≤ s.length + 1 := by
  unfold zerosOf
  split
  · simp
  · have := (List.dropWhile_sublist (· == (48 : UInt8)) (l := s)).length_le
    omega

/-- What a value may be. -/
theorem mkR_ok {n d : Int} {r : RS} {k : Nat} (hn : Bd k n) (hd : Bd k d) (hk : 1 ≤ k) : (mkR n d r).1.B k ∧ (mkR n d r).1.Ok ∧ (mkR n d r).2.rest = r.rest := by
  unfold mkR
  split
  · exact ⟨B_intN Bd.zero hk, Ok_intN 0, rfl⟩
  · rename_i h
    exact ⟨B_low (B_int hn hd), Ok_low h, rfl⟩
theorem Bd_ten (k : Nat) : Bd (k + 1) ((10 : Int) ^ k) := (Bd_pow (a := 10) (n := 1) (by unfold Bd; simp) k).mono (by omega)

theorem value_ok (r : RS) : r.value.1.B 450 ∧ r.value.1.Ok ∧ r.value.2.rest.length ≤ r.rest.length := by
  have h1 := integer_len r
  unfold RS.value
  simp only
  split
  · have h2 := integer_len (r.integer.2.passed [47]).2
    have h3 := passed_len r.integer.2 [47]
    obtain ⟨g1, g2, g3⟩ := mkR_ok (r := (r.integer.2.passed [47]).2.integer.2) ((integer_Bd r).mono (show 400 ≤ 450 by omega)) ((integer_Bd (r.integer.2.passed [47]).2).mono (show 400 ≤ 450 by omega)) (by omega)
    exact ⟨g1, g2, by rw [g3]; omega⟩
  · split
    · have h3 := passed_len r.integer.2 [46]
      have h4 := digits_len (r.integer.2.passed [46]).2
      split
      · exact ⟨B_intN Bd.zero (by omega), Ok_intN 0, by rw [fail_rest]; omega⟩
      · rename_i hs
        generalize hsd : (r.integer.2.passed [46]).2.digits = sd at *
        have hlen : sd.1.length ≤ 20 := by omega
        have b1 := (integer_Bd r).mul (Bd_ten sd.1.length)
        have b2 := parseI_Bd (zerosOf sd.1)
        have b3 := (b1.mono (show 400 + (sd.1.length + 1) ≤ 430 by omega)).add (b2.mono (show 400 ≤ 430 by omega))
        rw [Nat.max_self] at b3
        obtain ⟨g1, g2, g3⟩ := mkR_ok (r := sd.2) (b3.mono (show 430 + 1 ≤ 450 by omega)) ((Bd_ten sd.1.length).mono (show sd.1.length + 1 ≤ 450 by omega)) (by omega)
        exact ⟨g1, g2, by rw [g3]; omega⟩
    · obtain ⟨g1, g2, g3⟩ := mkR_ok (r := r.integer.2) ((integer_Bd r).mono (show 400 ≤ 450 by omega)) (Bd_one (show 1 ≤ 450 by omega)) (by omega)
      exact ⟨g1, g2, by rw [g3]; omega⟩

theorem root_ok (r : RS) : r.root.1.B 1 ∧ r.root.1.Ok ∧ r.root.2.2.rest.length ≤ r.rest.length := by
  unfold RS.root
  split
  · exact ⟨B_rootN, Ok_rootN _, passed_len _ _⟩
  · split
    · exact ⟨B_rootN, Ok_rootN _, passed_len _ _⟩
    · split
      · exact ⟨B_rootN, Ok_rootN _, passed_len _ _⟩
      · exact ⟨B_intN (Bd_one (Nat.le_refl _)) (Nat.le_refl _), Ok_intN 1, Nat.le_refl _⟩

theorem term_ok (r : RS) : r.term.1.B 460 ∧ r.term.1.Ok ∧ r.term.2.rest.length ≤ r.rest.length := by
  obtain ⟨a1, a2, a3⟩ := root_ok r
  unfold RS.term
  split
  · exact ⟨⟨a1.h0.mono (by omega), a1.h1.mono (by omega), a1.h2.mono (by omega), a1.h3.mono (by omega), a1.hd.mono (by omega)⟩, a2, a3⟩
  · obtain ⟨b1, b2, b3⟩ := value_ok r.root.2.2
    obtain ⟨c1, c2, c3⟩ := root_ok r.root.2.2.value.2
    have m := B_mulZ b1 c1
    exact ⟨⟨m.h0.mono (by omega), m.h1.mono (by omega), m.h2.mono (by omega), m.h3.mono (by omega), m.hd.mono (by omega)⟩, Ok_mulZ b2 c2, by simp only; omega⟩

section
variable {h : Store} {b : Nat}

set_option maxHeartbeats 2000000 in
theorem m_value {rest : List UInt8} {e : Int} (hb : getB h b = some (rd rest e)) (hlen : rest.length < 2 ^ 61) : Cm.m f_field_reader_value [.ref b 0] h = some (numA (ofN (RS.value ⟨rest, e⟩).1), h.set b (RS.value ⟨rest, e⟩).2.blk) := by
  have hl := lt_of_getB hb
  refine m_rd t_field_reader_value hb (Gives_of rfl ?_)
  have hint : ∀ (r : RS) J, r.rest.length < 2 ^ 62 → Cm.m f_field_reader_integer [.ref b 0] (stJ h b r.blk J) = some (intA (ofZ r.integer.1), stJ h b r.integer.2.blk J) := by
    intro r J hr
    rw [m_integer (rest := r.rest) (e := r.e) (by simp [hl]) hr]
    simp [hl]
  have hps : ∀ (r : RS) p J, Cm.m f_field_reader_passed [.ref b 0, .str p] (stJ h b r.blk J) = some (.bool (r.passed p).1, stJ h b (r.passed p).2.blk J) := by
    intro r p J
    rw [m_passed (rest := r.rest) (e := r.e) (by simp [hl]) p]
    simp [hl]
  have hdg : ∀ (r : RS) J, r.rest.length < 2 ^ 62 → Cm.m f_field_reader_digits [.ref b 0] (stJ h b r.blk J) = some (.str r.digits.1, stJ h b r.digits.2.blk J) := by
    intro r J hr
    rw [m_digits (rest := r.rest) (e := r.e) (by simp [hl]) hr]
    simp [hl]
  have hfl : ∀ (r : RS) x J, Cm.m f_field_reader_fail [.ref b 0, .int .i64 x] (stJ h b r.blk J) = some (.tup [], stJ h b (r.fail x).blk J) := by
    intro r x J
    rw [m_fail (rest := r.rest) (e := r.e) (by simp [hl]) x]
    simp [hl]
  obtain ⟨r0, hr0⟩ : ∃ r : RS, (⟨rest, e⟩ : RS) = r := ⟨_, rfl⟩
  have hr0b : rd rest e = r0.blk := by rw [← hr0]
  have hlen0 : r0.rest.length < 2 ^ 61 := by rw [← hr0]; exact hlen
  rw [hr0, hr0b]
  have o1 := q_Of (z := 1) (by omega) (by omega)
  have o10 := q_Of (z := 10) (by omega) (by omega)
  have f0 := q_field_Of (k := 0) (by omega) (by omega)
  have l1 := integer_len r0
  have i0 := hint r0
  generalize hn : r0.integer = n at *
  -- the end: a number out of two integers
  have mk : ∀ (a d : Int) (r : RS), Bd 450 a → Bd 450 d → Cm.q f_field_Make [arrA ⟨ofZ a, ⟨false, []⟩, ⟨false, []⟩, ⟨false, []⟩⟩, intA (ofZ d)] = some (if d = 0 then .tup [numA (ofN zeroN), .int .i64 10] else .tup [numA (ofN (low ⟨a, 0, 0, 0, d⟩)), .int .i64 0]) := by
    intro a d r h1 h2
    have := q_Make (B_int h1 h2) (by omega)
    simpa [ZNum.arr, ofZ_zero] using this
  have hval : r0.value = (if (n.2.passed [47]).1 then mkR n.1 (n.2.passed [47]).2.integer.1 (n.2.passed [47]).2.integer.2
      else if (n.2.passed [46]).1 then
        let s := (n.2.passed [46]).2.digits
        if s.1 = [] ∨ 20 < s.1.length then (intN 0, s.2.fail 4) else mkR (n.1 * 10 ^ s.1.length + (parseI (zerosOf s.1)).1) (10 ^ s.1.length) s.2
      else mkR n.1 1 n.2) := by simp only [RS.value, hn]
  rw [hval]
  have bn : Bd 450 n.1 := by rw [← hn]; exact (integer_Bd r0).mono (by omega)
  cases h47 : (n.2.passed [47]).1 with
  | true =>
    have l2 := passed_len n.2 [47]
    have p47 := hps n.2 [47]
    rw [h47] at p47
    have i1 := hint (n.2.passed [47]).2
    have l3 := integer_len (n.2.passed [47]).2
    have bd := (integer_Bd (n.2.passed [47]).2).mono (show 400 ≤ 450 by omega)
    generalize (n.2.passed [47]).2 = r1 at *
    generalize r1.integer = d at *
    have hm := mk n.1 d.1 d.2 bn bd
    by_cases hd0 : d.1 = 0
    · rw [if_pos hd0] at hm
      have hk : mkR n.1 d.1 d.2 = (intN 0, d.2.fail 10) := if_pos hd0
      simp (disch := omega) [e_field_reader_value, i0, p47, i1, o1, hm, hl, hfl, f0, hk]
      exact ⟨_, rfl⟩
    · rw [if_neg hd0] at hm
      have hk : mkR n.1 d.1 d.2 = (low ⟨n.1, 0, 0, 0, d.1⟩, d.2) := if_neg hd0
      simp (disch := omega) [e_field_reader_value, i0, p47, i1, o1, hm, hl, hfl, f0, hk]
      exact ⟨_, rfl⟩
  | false =>
    have p47 := hps n.2 [47]
    have e47 := passed_false h47
    rw [h47, e47] at p47
    cases h46 : (n.2.passed [46]).1 with
    | false =>
      have p46 := hps n.2 [46]
      have e46 := passed_false h46
      rw [h46, e46] at p46
      have hm := mk n.1 1 n.2 bn (Bd_one (by omega))
      have hk : mkR n.1 1 n.2 = (low ⟨n.1, 0, 0, 0, 1⟩, n.2) := if_neg (by omega)
      simp at hm
      simp (disch := omega) [e_field_reader_value, i0, p47, p46, o1, hm, hl, hk]
      exact ⟨_, rfl⟩
    | true =>
      have p46 := hps n.2 [46]
      have l2 := passed_len n.2 [46]
      rw [h46] at p46
      generalize (n.2.passed [46]).2 = r1 at *
      have d1 := hdg r1
      have l3 := digits_len r1
      have l4 := digits_len1 r1
      generalize r1.digits = sd at *
      by_cases hs0 : sd.1 = []
      · simp (disch := omega) [e_field_reader_value, i0, p47, p46, d1, o1, hl, hfl, f0, hs0]
        exact ⟨_, rfl⟩
      · by_cases hs20 : 20 < sd.1.length
        · simp (disch := omega) [e_field_reader_value, i0, p47, p46, d1, o1, hl, hfl, f0, hs0, hs20]
          exact ⟨_, rfl⟩
        · have hp := q_Pow (a := 10) (n := 1) (k := sd.1.length) (by unfold Bd; simp) (by omega) (by omega)
          have ht := q_TrimLeft1 sd.1 48 (by omega) (by decide)
          have zl := zerosOf_len sd.1
          have hpz := q_bigint_Parse (zerosOf sd.1) (by omega)
          have bz := parseI_Bd (zerosOf sd.1)
          have b10 := (Bd_ten sd.1.length)
          have hM := q_Mul bn b10 (by omega)
          have bM := (bn.mul b10).mono (show 450 + (sd.1.length + 1) ≤ 500 by omega)
          have hA := q_Add bM (bz.mono (show 400 ≤ 500 by omega)) (by omega)
          have hif : ¬ (sd.1 = [] ∨ 20 < sd.1.length) := by simp [hs0]; omega
          have hmm := q_Make (z := ⟨n.1 * 10 ^ sd.1.length + (parseI (zerosOf sd.1)).1, 0, 0, 0, 10 ^ sd.1.length⟩) (n := 501) (B_int (by have := bM.add (bz.mono (show 400 ≤ 500 by omega)); rwa [Nat.max_self] at this) (b10.mono (by omega))) (by omega)
          have hp0 : (10 : Int) ^ sd.1.length ≠ 0 := by
            have : (0 : Int) < 10 ^ sd.1.length := Int.pow_pos (by omega)
            omega
          have hk : ∀ x, mkR x (10 ^ sd.1.length) sd.2 = (low ⟨x, 0, 0, 0, 10 ^ sd.1.length⟩, sd.2) := fun x => if_neg hp0
          rw [if_neg hp0] at hmm
          simp only [ZNum.arr, ofZ_zero] at hmm
          rw [if_neg hif]
          generalize hT : (10 : Int) ^ sd.1.length = T at *
          by_cases hz : sd.1.dropWhile (· == 48) = []
          · have ez : zerosOf sd.1 = [48] := if_pos hz
            rw [hz] at ht
            rw [ez] at hpz hA hmm
            simp (disch := omega) [e_field_reader_value, i0, p47, p46, d1, o1, o10, hl, hs0, hp, ht, hpz, hM, hA, hmm, hk, ez]
            exact ⟨_, rfl⟩
          · have ez : zerosOf sd.1 = sd.1.dropWhile (· == 48) := if_neg hz
            rw [← ez] at ht
            have hz2 : ¬ zerosOf sd.1 = [] := by rw [ez]; exact hz
            simp (disch := omega) [e_field_reader_value, i0, p47, p46, d1, o1, o10, hl, hs0, hp, ht, hz2, hpz, hM, hA, hmm, hk]
            exact ⟨_, rfl⟩

theorem m_term {rest : List UInt8} {e : Int} (hb : getB h b = some (rd rest e)) (hlen : rest.length < 2 ^ 61) : Cm.m f_field_reader_term [.ref b 0] h = some (numA (ofN (RS.term ⟨rest, e⟩).1), h.set b (RS.term ⟨rest, e⟩).2.blk) := by
  have hl := lt_of_getB hb
  refine m_rd t_field_reader_term hb (Gives_of rfl ?_)
  have hrt : ∀ (r : RS) J, Cm.m f_field_reader_root [.ref b 0] (stJ h b r.blk J) = some (.tup [numA (ofN r.root.1), .bool r.root.2.1], stJ h b r.root.2.2.blk J) := by
    intro r J
    rw [m_root (rest := r.rest) (e := r.e) (by simp [hl])]
    simp [hl]
  have hvl : ∀ (r : RS) J, r.rest.length < 2 ^ 61 → Cm.m f_field_reader_value [.ref b 0] (stJ h b r.blk J) = some (numA (ofN r.value.1), stJ h b r.value.2.blk J) := by
    intro r J hr
    rw [m_value (rest := r.rest) (e := r.e) (by simp [hl]) hr]
    simp [hl]
  obtain ⟨r0, hr0⟩ : ∃ r : RS, (⟨rest, e⟩ : RS) = r := ⟨_, rfl⟩
  have hr0b : rd rest e = r0.blk := by rw [← hr0]
  have hlen0 : r0.rest.length < 2 ^ 61 := by rw [← hr0]; exact hlen
  rw [hr0, hr0b]
  have h1 := hrt r0
  obtain ⟨_, _, l1⟩ := root_ok r0
  cases hb1 : r0.root.2.1 with
  | true =>
    rw [hb1] at h1
    have ht : r0.term = (r0.root.1, r0.root.2.2) := if_pos hb1
    simp [e_field_reader_term, h1, ht, hl]
    exact ⟨_, rfl⟩
  | false =>
    rw [hb1] at h1
    have ht : r0.term = (mulZ r0.root.2.2.value.1 r0.root.2.2.value.2.root.1, r0.root.2.2.value.2.root.2.2) := if_neg (by simp [hb1])
    obtain ⟨v1, v2, _⟩ := value_ok r0.root.2.2
    obtain ⟨w1, w2, _⟩ := root_ok r0.root.2.2.value.2
    have hv := hvl r0.root.2.2
    have hr2 := hrt r0.root.2.2.value.2
    have hM := q_field_Mul v1 w1 v2 w2 (by omega)
    rw [ht]
    generalize r0.root = q0 at *
    generalize q0.2.2.value = q1 at *
    generalize q1.2.root = q2 at *
    simp (disch := omega) [e_field_reader_term, h1, hv, hr2, hM, hl]
    exact ⟨_, rfl⟩
end
end Go.Proofs.YteaopgkajbfkeaaGreatDoor
namespace Go.Proofs.YteaopgkajbfkeaaGreatDoor
open Go

/-- The terms of a written number, one after another. -/
def parseF : Nat → RS → ZNum → Bool → RS × ZNum
  | 0, r, s, _ => (r, s)
  | k + 1, r, s, neg =>
    let t := r.term
    let s' := addZ s (if neg then negZ t.1 else t.1)
    if t.2.e = 4 ∨ t.2.rest = [] then (t.2, s')
    else if (t.2.passed [45]).1 then parseF k (t.2.passed [45]).2 s' true
    else if (t.2.passed [43]).1 then parseF k (t.2.passed [43]).2 s' false
    else (t.2.fail 4, s')
def parseN (s : List UInt8) : ZNum × Int :=
  if 400 < s.length then (zeroN, 3)
  else
    let p := (RS.mk s 0).passed [45]
    let q := parseF (s.length + 1) p.2 (intN 0) p.1
    if q.1.e ≠ 0 then (zeroN, q.1.e) else (q.2, 0)

/-- The state of reading: what is left to do, memory. -/
structure PaSt where
  k : Nat
  r : RS
  s : ZNum
  neg : Bool
  h : Store

theorem B_mono {z : ZNum} {n m : Nat} (h : z.B n) (hm : n ≤ m) : z.B m := ⟨h.h0.mono hm, h.h1.mono hm, h.h2.mono hm, h.h3.mono hm, h.hd.mono hm⟩

set_option maxHeartbeats 2000000 in
theorem parse_loop {T : RS × ZNum} {k0 : Nat} {r0 : RS} {neg0 : Bool} (hk0 : r0.rest.length < k0) (hr0 : r0.rest.length ≤ 400) (hT : parseF k0 r0 (intN 0) neg0 = T) {B0 : Blk} {h0 : Store} (g0 : getB h0 0 = some B0) (g1 : getB h0 1 = some r0.blk) (g2 : getB h0 2 = some ⟨GNum.C (ofN (intN 0)), 1, false, false⟩)
    {mm : List (Nat × AV)} {dd : AV} {Q : Ex → St → Prop}
    (m2 : lk dd mm 2 = .ref 0 0) (m4 : lk dd mm 4 = .ref 1 0) (m5 : lk dd mm 5 = .ref 2 0) (m6 : lk dd mm 6 = .bool neg0)
    (hq : ∀ m' d' h', lk d' m' 2 = .ref 0 0 → lk d' m' 4 = .ref 1 0 → lk d' m' 5 = .ref 2 0 → getB h' 0 = some B0 → getB h' 1 = some T.1.blk → getB h' 2 = some ⟨GNum.C (ofN T.2), 1, false, false⟩ → Q .nrm (mkL 60 d' m', h')) :
    V Cm 0 l_field_Parse_0 (mkL 60 dd mm, h0) Q ⟨⟩ ⟨⟩ := by
  unfold l_field_Parse_0
  simp
  refine V.loop (fun s : PaSt => s.r.rest.length < s.k ∧ s.r.rest.length ≤ 400 ∧ parseF s.k s.r s.s s.neg = T ∧ s.s.Ok ∧ s.s.B (1000 * (401 - s.r.rest.length) + 1) ∧ getB s.h 0 = some B0 ∧ getB s.h 1 = some s.r.blk ∧ getB s.h 2 = some ⟨GNum.C (ofN s.s), 1, false, false⟩)
    (fun s => (mkL 60 .any [(2, .ref 0 0), (4, .ref 1 0), (5, .ref 2 0), (6, .bool s.neg)], s.h)) (fun s => s.k) ?_ ⟨k0, r0, intN 0, neg0, h0⟩ ⟨hk0, hr0, hT, Ok_intN 0, B_mono (B_intN Bd.zero (Nat.le_refl 1)) (by omega), g0, g1, g2⟩ ?_
  · rintro ⟨k, r, s, neg, h⟩ ⟨hk, hr, hP, hOk, hB, k0', k1, k2⟩
    dsimp only at hk hr hP hOk hB k0' k1 k2
    obtain ⟨k', rfl⟩ : ∃ k', k = k' + 1 := ⟨k - 1, by omega⟩
    have hl1 := lt_of_getB k1
    have hl2 := lt_of_getB k2
    have hst := stJ_of k1
    have ht : ∀ J, Cm.m f_field_reader_term [.ref 1 0] (stJ h 1 r.blk J) = some (numA (ofN r.term.1), stJ h 1 r.term.2.blk J) := by
      intro J
      rw [m_term (rest := r.rest) (e := r.e) (by simp [hl1]) (by omega)]
      simp [hl1]
    obtain ⟨t1, t2, t3⟩ := term_ok r
    obtain ⟨s', hs'⟩ : ∃ s', addZ s (if neg then negZ r.term.1 else r.term.1) = s' := ⟨_, rfl⟩
    have hP' : (if r.term.2.e = 4 ∨ r.term.2.rest = [] then (r.term.2, s')
        else if (r.term.2.passed [45]).1 then parseF k' (r.term.2.passed [45]).2 s' true
        else if (r.term.2.passed [43]).1 then parseF k' (r.term.2.passed [43]).2 s' false
        else (r.term.2.fail 4, s')) = T := by rw [← hP, ← hs']; rfl
    have hN := q_field_Neg t1 t2 (by omega)
    have hAdd : Cm.q f_field_Add [numA (ofN s), numA (ofN (if neg then negZ r.term.1 else r.term.1))] = some (numA (ofN s')) := by
      rw [← hs']
      cases neg with
      | true => exact q_field_Add hB (B_negZ t1) hOk (Ok_negZ t2) (by omega)
      | false => exact q_field_Add hB t1 hOk t2 (by omega)
    have hBs' : s'.B (1000 * (401 - r.rest.length) + 1 + 460 + 1) := by
      rw [← hs']
      cases neg with
      | true => have := B_addZ hB (B_negZ t1); exact this
      | false => have := B_addZ hB t1; exact this
    have hOs' : s'.Ok := by
      rw [← hs']
      cases neg with
      | true => exact Ok_addZ hOk (Ok_negZ t2)
      | false => exact Ok_addZ hOk t2
    generalize r.term = t at *
    have hsum : ∀ {b : Blk} {J : Store}, getB (stJ h 1 b J) 2 = some ⟨GNum.C (ofN s), 1, false, false⟩ := by
      intro b J; rw [stJ_getO hl2 (by omega), k2]
    have hset : ∀ {b B : Blk} {J : Store}, (stJ h 1 b J).set 2 B = stJ (h.set 2 B) 1 b J := by
      intro b B J; exact stJ_setO hl2 (by omega)
    obtain ⟨H, hH⟩ : ∃ H, h.set 2 ⟨GNum.C (ofN s'), 1, false, false⟩ = H := ⟨_, rfl⟩
    have hHl : 1 < H.length := by rw [← hH]; simpa using hl1
    have hps : ∀ (r : RS) p J, Cm.m f_field_reader_passed [.ref 1 0, .str p] (stJ H 1 r.blk J) = some (.bool (r.passed p).1, stJ H 1 (r.passed p).2.blk J) := by
      intro r p J
      rw [m_passed (rest := r.rest) (e := r.e) (by simp [hHl]) p]
      simp [hHl]
    have hfl : ∀ (r : RS) x J, Cm.m f_field_reader_fail [.ref 1 0, .int .i64 x] (stJ H 1 r.blk J) = some (.tup [], stJ H 1 (r.fail x).blk J) := by
      intro r x J
      rw [m_fail (rest := r.rest) (e := r.e) (by simp [hHl]) x]
      simp [hHl]
    have next : ∀ (r2 : RS) (neg2 : Bool), r2.rest.length + 1 ≤ t.2.rest.length → parseF k' r2 s' neg2 = T → ∀ J, ∃ y : PaSt, (y.r.rest.length < y.k ∧ y.r.rest.length ≤ 400 ∧ parseF y.k y.r y.s y.neg = T ∧ y.s.Ok ∧ y.s.B (1000 * (401 - y.r.rest.length) + 1) ∧ getB y.h 0 = some B0 ∧ getB y.h 1 = some y.r.blk ∧ getB y.h 2 = some ⟨GNum.C (ofN y.s), 1, false, false⟩) ∧ y.k < k' + 1 ∧
        mkL 60 .any [(2, .ref 0 0), (4, .ref 1 0), (5, .ref 2 0), (6, .bool neg2)] = mkL 60 .any [(2, .ref 0 0), (4, .ref 1 0), (5, .ref 2 0), (6, .bool y.neg)] ∧ stJ (h.set 2 ⟨GNum.C (ofN s'), 1, false, false⟩) 1 r2.blk J = y.h := by
      intro r2 neg2 hl2' hp J
      refine ⟨⟨k', r2, s', neg2, stJ (h.set 2 ⟨GNum.C (ofN s'), 1, false, false⟩) 1 r2.blk J⟩, ⟨by simp only; omega, by simp only; omega, hp, hOs', B_mono hBs' (by simp only; omega), ?_, ?_, ?_⟩, by simp only; omega, rfl, rfl⟩
      · simp only; rw [stJ_getO (by simp; exact lt_of_getB k0') (by omega), getB_set_ne (by omega)]; exact k0'
      · simp only; rw [stJ_get (by simpa using hl1)]; rfl
      · simp only; rw [stJ_getO (by simpa using hl2) (by omega), getB_set_eq hl2]; rfl
    have done : ∀ (r2 : RS), (r2, s') = T → ∀ J m' d', lk d' m' 2 = .ref 0 0 → lk d' m' 4 = .ref 1 0 → lk d' m' 5 = .ref 2 0 → Q .nrm (mkL 60 d' m', stJ (h.set 2 ⟨GNum.C (ofN s'), 1, false, false⟩) 1 r2.blk J) := by
      intro r2 hp J m' d' e2 e4 e5
      rw [← hp] at hq
      refine hq _ _ _ e2 e4 e5 ?_ ?_ ?_
      · rw [stJ_getO (by simp; exact lt_of_getB k0') (by omega), getB_set_ne (by omega)]; exact k0'
      · rw [stJ_get (by simpa using hl1)]; rfl
      · rw [stJ_getO (by simpa using hl2) (by omega), getB_set_eq hl2]; rfl
    rw [hH] at next done
    rw [hst]
    by_cases h4 : t.2.e = 4
    · rw [if_pos (.inl h4)] at hP'
      cases neg <;> simp at hAdd <;> simp (disch := first | omega | (simp only [List.length_set]; omega)) [ht, hl1, hN, hsum, hAdd, hset, hH, hHl, h4] <;> exact done _ hP' _ _ _ (by simp) (by simp) (by simp)
    · by_cases hr0 : t.2.rest = []
      · rw [if_pos (.inr hr0)] at hP'
        cases neg <;> simp at hAdd <;> simp (disch := first | omega | (simp only [List.length_set]; omega)) [ht, hl1, hN, hsum, hAdd, hset, hH, hHl, h4, hr0] <;> (rw [← hr0]; exact done _ hP' _ _ _ (by simp) (by simp) (by simp))
      · rw [if_neg (by simp [h4, hr0])] at hP'
        have p45 := hps t.2 [45]
        cases h45 : (t.2.passed [45]).1 with
        | true =>
          rw [if_pos h45] at hP'
          rw [h45] at p45
          have l1 := passed_lt h45
          simp at l1
          have nx := next _ true (by omega) hP'
          cases neg <;> simp at hAdd <;> simp (disch := first | omega | (simp only [List.length_set]; omega)) [ht, hl1, hN, hsum, hAdd, hset, hH, hHl, h4, hr0, p45] <;> exact nx _
        | false =>
          have e45 := passed_false h45
          rw [h45, e45] at p45
          rw [if_neg (by simp [h45])] at hP'
          have p43 := hps t.2 [43]
          cases h43 : (t.2.passed [43]).1 with
          | true =>
            rw [if_pos h43] at hP'
            rw [h43] at p43
            have l1 := passed_lt h43
            simp at l1
            have nx := next _ false (by omega) hP'
            cases neg <;> simp at hAdd <;> simp (disch := first | omega | (simp only [List.length_set]; omega)) [ht, hl1, hN, hsum, hAdd, hset, hH, hHl, h4, hr0, p45, p43] <;> exact nx _
          | false =>
            have e43 := passed_false h43
            rw [h43, e43] at p43
            rw [if_neg (by simp [h43])] at hP'
            cases neg <;> simp at hAdd <;> simp (disch := first | omega | (simp only [List.length_set]; omega)) [ht, hl1, hN, hsum, hAdd, hset, hH, hHl, h4, hr0, p45, p43, hfl] <;> exact done _ hP' _ _ _ (by simp) (by simp) (by simp)
  · simp [m2, m4, m5, m6]

theorem q_field_Parse (s : List UInt8) (hs : s.length < 2 ^ 61) : Cm.q f_field_Parse [.str s] = some (.tup [numA (ofN (parseN s).1), .int .i64 (parseN s).2]) := by
  refine q_by t_field_Parse (Gives_of rfl ?_)
  by_cases h400 : 400 < s.length
  · have hp : parseN s = (zeroN, 3) := if_pos h400
    rw [hp]
    simp (disch := omega) [e_field_Parse, ofN_zeroN]
  · have hp : parseN s = (let p := (RS.mk s 0).passed [45]; let q := parseF (s.length + 1) p.2 (intN 0) p.1; if q.1.e ≠ 0 then (zeroN, q.1.e) else (q.2, 0)) := if_neg h400
    have f0 := q_field_Of (k := 0) (by omega) (by omega)
    have hps : Cm.m f_field_reader_passed [.ref 1 0, .str [45]] [⟨GNum.C ⟨⟨⟨false, []⟩, ⟨false, []⟩, ⟨false, []⟩, ⟨false, []⟩⟩, ⟨false, []⟩⟩, 1, false, false⟩, rd s 0, ⟨GNum.C (ofN (intN 0)), 1, false, false⟩] = some (.bool ((RS.mk s 0).passed [45]).1, [⟨GNum.C ⟨⟨⟨false, []⟩, ⟨false, []⟩, ⟨false, []⟩, ⟨false, []⟩⟩, ⟨false, []⟩⟩, 1, false, false⟩, ((RS.mk s 0).passed [45]).2.blk, ⟨GNum.C (ofN (intN 0)), 1, false, false⟩]) := by
      rw [m_passed (rest := s) (e := 0) rfl [45]]
      rfl
    have hl := passed_len (RS.mk s 0) [45]
    simp only at hp hl
    generalize (RS.mk s 0).passed [45] = p at *
    obtain ⟨T, hT⟩ : ∃ T, parseF (s.length + 1) p.2 (intN 0) p.1 = T := ⟨_, rfl⟩
    rw [hT] at hp
    rw [hp]
    simp (disch := omega) [e_field_Parse, f0, hps]
    refine parse_loop (k0 := s.length + 1) (r0 := p.2) (neg0 := p.1) (by omega) (by omega) hT (B0 := ⟨GNum.C ⟨⟨⟨false, []⟩, ⟨false, []⟩, ⟨false, []⟩, ⟨false, []⟩⟩, ⟨false, []⟩⟩, 1, false, false⟩) rfl rfl rfl ?_ ?_ ?_ ?_ ?_ <;> (try simp)
    intro m' d' h' e2 e4 e5 k0 k1 k2
    by_cases hz : T.1.e = 0
    · simp [e2, e4, e5, k0, k1, k2, hz, getB_set_eq (lt_of_getB k0)]
    · simp [e2, e4, e5, k0, k1, k2, hz, getB_set_eq (lt_of_getB k0), ofN_zeroN]
end Go.Proofs.YteaopgkajbfkeaaGreatDoor
namespace Go.Proofs.YteaopgkajbfkeaaGreatDoor
open Go

/-- The roots' texts. -/
def rootS : Nat → List UInt8
  | 0 => []
  | 1 => [114, 50]
  | 2 => [114, 51]
  | _ => [114, 54]
/-- A coefficient's value as a text. -/
def coefS (c d : Int) : List UInt8 :=
  itoa ((c.natAbs : Int).fdiv (Int.gcd c d)) ++ (if d.fdiv (Int.gcd c d) = 1 then [] else 47 :: itoa (d.fdiv (Int.gcd c d)))
def termS (i : Nat) (c d : Int) (s : List UInt8) : List UInt8 :=
  if c = 0 then s
  else s ++ (if c < 0 then [45] else if s = [] then [] else [43]) ++ ((if coefS c d = [49] ∧ rootS i ≠ [] then [] else coefS c d) ++ rootS i)
def printS (z : ZNum) : List UInt8 := (List.range 4).foldl (fun s i => termS i (z.c4.get i) z.d s) []
def printN (z : ZNum) : List UInt8 := if printS z = [] then [48] else printS z

theorem itoa_len {z : Int} {n : Nat} (h : Bd n z) : (itoa z).length ≤ 3 * n + 2 := by
  have h3 : (dec z.natAbs).length ≤ 3 * n + 1 := by
    apply dec_length_le
    have h1 : (256 : Nat) ^ n ≤ (10 ^ 3) ^ n := Nat.pow_le_pow_left (by omega) n
    rw [← Nat.pow_mul] at h1
    have h2 : (10 : Nat) ^ (3 * n) ≤ 10 ^ (3 * n + 1) := Nat.pow_le_pow_right (by omega) (by omega)
    exact Nat.lt_of_lt_of_le h (Nat.le_trans h1 h2)
  unfold itoa; split <;> simp <;> omega

/-- The state of printing a number. -/
structure PnSt where
  i : Nat
  s : List UInt8
  h : Store

theorem prefix_succ (z : ZNum) (i : Nat) : (List.range (i + 1)).foldl (fun s i => termS i (z.c4.get i) z.d s) [] = termS i (z.c4.get i) z.d ((List.range i).foldl (fun s i => termS i (z.c4.get i) z.d s) []) := by
  rw [List.range_succ, List.foldl_append]; rfl

set_option maxHeartbeats 4000000 in
theorem print_loop {z : ZNum} {n : Nat} (hB : z.B n) (hOk : z.Ok) (hn : n ≤ 2 ^ 20) {mm : List (Nat × AV)} {dd : AV} {Q : Ex → St → Prop} {h0 : Store} (g0 : getB h0 0 = some ⟨GNum.C (ofN z), 1, false, false⟩)
    (m1 : lk dd mm 1 = .ref 0 0) (m3 : lk dd mm 3 = .str []) (m14 : lk dd mm 14 = .gsl 1 [.str [], .str [114, 50], .str [114, 51], .str [114, 54]]) (m15 : lk dd mm 15 = .int .i64 4) (m16 : lk dd mm 16 = .int .i64 0)
    (hq : ∀ m' d' h', lk d' m' 3 = .str (printS z) → Q .nrm (mkL 75 d' m', h')) :
    V Cm 0 l_field_Print_0 (mkL 75 dd mm, h0) Q ⟨⟩ ⟨⟩ := by
  unfold l_field_Print_0
  simp
  refine V.loop (fun t : PnSt => t.i ≤ 4 ∧ t.s = (List.range t.i).foldl (fun s i => termS i (z.c4.get i) z.d s) [] ∧ t.s.length ≤ t.i * 2 ^ 30 ∧ getB t.h 0 = some ⟨GNum.C (ofN z), 1, false, false⟩)
    (fun t => (mkL 75 .any [(1, .ref 0 0), (3, .str t.s), (14, .gsl 1 [.str [], .str [114, 50], .str [114, 51], .str [114, 54]]), (15, .int .i64 4), (16, .int .i64 t.i)], t.h)) (fun t => 4 - t.i) ?_ ⟨0, [], h0⟩ ⟨Nat.zero_le _, rfl, by simp, g0⟩ ?_
  · rintro ⟨i, s, h⟩ ⟨hi, hs, hsl, k0⟩
    dsimp only at hi hs hsl k0
    by_cases hi4 : i < 4
    · have hrt : ([.str [], .str [114, 50], .str [114, 51], .str [114, 54]] : List AV)[i]? = some (.str (rootS i)) := by
        rcases lt4 hi4 with rfl | rfl | rfl | rfl <;> rfl
      have hrg : ∀ h, ([.str [], .str [114, 50], .str [114, 51], .str [114, 54]] : List AV)[i]'h = .str (rootS i) := by
        intro h; rw [List.getElem?_eq_getElem h] at hrt; exact Option.some.inj hrt
      have hrl : (rootS i).length ≤ 2 := by rcases lt4 hi4 with rfl | rfl | rfl | rfl <;> decide
      have hp : partOf true 2 (i * 2) (.agg (GNum.C (ofN z))) = some (intA (ofZ (z.c4.get i))) := by
        rcases lt4 hi4 with rfl | rfl | rfl | rfl <;> rfl
      have hdd : (ofN z).d = ofZ z.d := rfl
      have hcB : Bd n (z.c4.get i) := B_c4 hB i
      have step := prefix_succ z i
      rw [← hs] at step
      have hl0 := lt_of_getB k0
      have kx : ∀ J, getB (h ++ J) 0 = some ⟨GNum.C (ofN z), 1, false, false⟩ := fun J => getB_app_some k0
      obtain ⟨c, hc⟩ : ∃ c, z.c4.get i = c := ⟨_, rfl⟩
      rw [hc] at hp hcB step
      have next : ∀ s' H, getB H 0 = some ⟨GNum.C (ofN z), 1, false, false⟩ → s' = termS i c z.d s → s'.length ≤ s.length + 2 ^ 30 → ∃ y : PnSt, (y.i ≤ 4 ∧ y.s = (List.range y.i).foldl (fun s i => termS i (z.c4.get i) z.d s) [] ∧ y.s.length ≤ y.i * 2 ^ 30 ∧ getB y.h 0 = some ⟨GNum.C (ofN z), 1, false, false⟩) ∧ 4 - y.i < 4 - i ∧
          mkL 75 .any [(1, .ref 0 0), (3, .str s'), (14, .gsl 1 [.str [], .str [114, 50], .str [114, 51], .str [114, 54]]), (15, .int .i64 4), (16, .int .i64 ((i : Int) + 1))] = mkL 75 .any [(1, .ref 0 0), (3, .str y.s), (14, .gsl 1 [.str [], .str [114, 50], .str [114, 51], .str [114, 54]]), (15, .int .i64 4), (16, .int .i64 y.i)] ∧ H = y.h := by
        intro s' H e0 e1 e2
        exact ⟨⟨i + 1, s', H⟩, ⟨by simp only; omega, by simp only; rw [e1, step], by simp only; omega, e0⟩, by simp only; omega, by simp, rfl⟩
      by_cases hc0 : c = 0
      · simp (disch := omega) [hrg, hp, k0, kx, hc0]
        exact next s _ (by first | exact k0 | exact kx _) (by simp [termS, hc0]) (by omega)
      · have hG := q_Gcd hcB hB.hd (by omega)
        have hA := q_Abs c
        have hgB := Bd_gcd hcB hB.hd
        have hg0 : (Int.gcd c z.d : Int) ≠ 0 := by
          have : Int.gcd c z.d ≠ 0 := by simp [Int.gcd_eq_zero_iff]; intro h; exact absurd h hc0
          omega
        have hAB : Bd n (c.natAbs : Int) := by unfold Bd at *; simpa using hcB
        have ho1 := q_over hAB hgB (by omega) hg0
        have ho2 := q_over hB.hd hgB (by omega) hg0
        have bn1 : Bd n ((c.natAbs : Int).fdiv (Int.gcd c z.d)) := Bd_fdiv hAB (Int.ofNat_dvd.2 (Nat.gcd_dvd_left _ _))
        have bn2 : Bd n (z.d.fdiv (Int.gcd c z.d)) := Bd_fdiv hB.hd (Int.gcd_dvd_right _ _)
        have hp1 := q_bigint_Print bn1 (by omega)
        have hp2 := q_bigint_Print bn2 (by omega)
        have il1 := itoa_len bn1
        have il2 := itoa_len bn2
        have o1 := q_Of (z := 1) (by omega) (by omega)
        have hcs : coefS c z.d = itoa ((c.natAbs : Int).fdiv (Int.gcd c z.d)) ++ (if z.d.fdiv (Int.gcd c z.d) = 1 then [] else 47 :: itoa (z.d.fdiv (Int.gcd c z.d))) := rfl
        generalize (c.natAbs : Int).fdiv (Int.gcd c z.d) = A at *
        generalize z.d.fdiv (Int.gcd c z.d) = D at *
        by_cases hD : D = 1
        · have hD' : ofZ D = ofZ 1 := by rw [hD]
          rw [if_pos hD, List.append_nil] at hcs
          by_cases h49 : itoa A = [49] <;> by_cases hrS : rootS i = [] <;> by_cases hng : c < 0 <;> by_cases hs0 : s = [] <;>
            simp (disch := omega) [hrg, hp, k0, kx, hc0, hG, hA, ho1, ho2, hdd, hp1, o1, hD', h49, hrS, hng, hs0] <;>
            exact next _ _ (by first | exact k0 | exact kx _) (by simp [termS, hc0, hcs, h49, hrS, hng, hs0]) (by simp; try omega)
        · have hD' : ¬ ofZ D = ofZ 1 := by rw [ofZ_eq]; exact hD
          rw [if_neg hD] at hcs
          have h49 : ¬ itoa A ++ 47 :: itoa D = [49] := by
            intro h; have := congrArg List.length h; have h4 : (47 : UInt8) ∈ [49] := by rw [← h]; simp
            exact absurd h4 (by decide)
          by_cases hrS : rootS i = [] <;> by_cases hng : c < 0 <;> by_cases hs0 : s = [] <;>
            simp (disch := omega) [hrg, hp, k0, kx, hc0, hG, hA, ho1, ho2, hdd, hp1, hp2, o1, hD', h49, hrS, hng, hs0] <;>
            exact next _ _ (by first | exact k0 | exact kx _) (by simp [termS, hc0, hcs, h49, hrS, hng, hs0]) (by simp; try omega)
    · obtain rfl : i = 4 := by omega
      simp
      subst hs
      exact hq _ _ _ (by simp; rfl)
  · simp [m1, m3, m14, m15, m16]

set_option maxHeartbeats 2000000 in
theorem q_field_Print {z : ZNum} {n : Nat} (hB : z.B n) (hOk : z.Ok) (hn : n ≤ 2 ^ 20) : Cm.q f_field_Print [numA (ofN z)] = some (.str (printN z)) := by
  have hv := q_Valid_ok hB hOk (by omega)
  refine q_by t_field_Print (Gives_of rfl ?_)
  simp (disch := omega) [e_field_Print, hv]
  refine print_loop hB hOk hn (by simp) (by simp) (by simp) (by simp) (by simp) (by simp) ?_
  intro m d h e
  by_cases h0 : printS z = [] <;> simp [e, h0, printN]
end Go.Proofs.YteaopgkajbfkeaaGreatDoor
namespace Go.Proofs.YteaopgkajbfkeaaGreatDoor
open Go

@[simp] theorem freezeN_nili {h : Store} {d : Nat} : freezeN h (d + 1) .nili = some .nili := rfl

theorem atoi_loop {d s0 : List UInt8} (hl : d.length ≤ 6) (ha : AllDig d) {mm : List (Nat × AV)} {dd : AV} {Q : Ex → St → Prop} {h : Store}
    (m5 : lk dd mm 5 = .str s0) (m6 : lk dd mm 6 = .int .i64 0) (m47 : lk dd mm 47 = .gsl 1 (d.map fun (b : UInt8) => AV.int .u8 b.toNat)) (m48 : lk dd mm 48 = .int .i64 d.length) (m49 : lk dd mm 49 = .int .i64 0)
    (hq : ∀ m' d', lk d' m' 5 = .str s0 → lk d' m' 6 = .int .i64 (decVal d) → Q .nrm (mkL 77 d' m', h)) :
    V Cm 0 l_i_strconv_Atoi_0 (mkL 77 dd mm, h) Q ⟨⟩ ⟨⟩ := by
  unfold l_i_strconv_Atoi_0
  simp
  refine V.loop (fun i : Nat => i ≤ d.length)
    (fun i => (mkL 77 .any [(5, .str s0), (6, .int .i64 (decVal (d.take i))), (47, .gsl 1 (d.map fun (b : UInt8) => AV.int .u8 b.toNat)), (48, .int .i64 d.length), (49, .int .i64 i)], h)) (fun i => d.length - i) ?_ 0 (Nat.zero_le _) ?_
  · intro i hi
    by_cases h : i < d.length
    · obtain ⟨x, hx⟩ : ∃ x, d[i] = x := ⟨_, rfl⟩
      have htk : d.take (i + 1) = d.take i ++ [x] := by rw [List.take_succ_eq_append_getElem h, hx]
      have hd : isDig x = true := ha x (by rw [← hx]; exact List.getElem_mem h)
      simp [isDig] at hd
      have hv : decVal (d.take i) < 10 ^ i := by
        have := decVal_lt (d.take i) (ha.take i)
        rwa [List.length_take, Nat.min_eq_left (by omega)] at this
      have hv6 : decVal (d.take i) < 10 ^ 6 := Nat.lt_of_lt_of_le hv (Nat.pow_le_pow_right (by omega) (by omega))
      have e1 := decVal_snoc (d.take i) x
      rw [← htk] at e1
      have e2 : (decVal (d.take (i + 1)) : Int) = decVal (d.take i) * 10 + ((x.toNat : Int) - 48) := by omega
      obtain ⟨b, hb⟩ : ∃ b : Nat, x.toNat = b := ⟨_, rfl⟩
      simp (disch := omega) [hx]
      refine ⟨i + 1, by omega, by omega, ?_⟩
      simp [e2]
    · obtain rfl : i = d.length := by omega
      simp (disch := omega)
      exact hq _ _ (by simp) (by simp)
  · simp [m5, m6, m47, m48, m49, decVal]

/-- A sign and digits. -/
def sgn (neg : Bool) (d : List UInt8) : List UInt8 := if neg then 45 :: d else d
def sgnV (neg : Bool) (d : List UInt8) : Int := if neg then -(decVal d : Int) else decVal d

theorem q_iAtoi {d : List UInt8} (hl : d.length ≤ 6) (ha : AllDig d) (h0 : d ≠ []) (neg : Bool) : Cm.q f_i_strconv_Atoi [.str (sgn neg d)] = some (.tup [.int .i64 (sgnV neg d), .nili]) := by
  refine q_by t_i_strconv_Atoi (Gives_of rfl ?_)
  have hv : decVal d < 10 ^ 6 := Nat.lt_of_lt_of_le (decVal_lt d ha) (Nat.pow_le_pow_right (by omega) hl)
  obtain ⟨c, e, rfl⟩ : ∃ c e, d = c :: e := by cases d with | nil => exact absurd rfl h0 | cons c e => exact ⟨c, e, rfl⟩
  have hc : isDig c = true := ha c (by simp)
  simp [isDig] at hc
  simp only [List.length_cons] at hl
  have c1 : ¬ c = 45 := by rintro rfl; simp at hc
  have c2 : ¬ c = 43 := by rintro rfl; simp at hc
  cases neg
  · simp (disch := omega) [e_i_strconv_Atoi, sgn, c1, c2]
    refine atoi_loop (d := c :: e) (s0 := c :: e) (by simp; omega) ha (by simp) (by simp) (by simp) (by simp) (by simp) ?_
    intro m' d' k5 k6
    simp (disch := omega) [k5, k6, sgnV, c1]
  · simp (disch := omega) [e_i_strconv_Atoi, sgn]
    refine atoi_loop (d := c :: e) (s0 := 45 :: c :: e) (by simp; omega) ha (by simp) (by simp) (by simp) (by simp) (by simp) ?_
    intro m' d' k5 k6
    simp (disch := omega) [k5, k6, sgnV]
theorem q_sAtoi {d : List UInt8} (hl : d.length ≤ 6) (ha : AllDig d) (h0 : d ≠ []) (neg : Bool) : Cm.q f_strconv_Atoi [.str (sgn neg d)] = some (.tup [.int .i64 (sgnV neg d), .nili]) := by
  refine q_by t_strconv_Atoi (Gives_of rfl ?_)
  have h1 := q_iAtoi hl ha h0 neg
  simp (disch := omega) [e_strconv_Atoi, h1]

def lexDigits (s : List UInt8) : List UInt8 := if [45].isPrefixOf s then s.drop 1 else s
def isInt (s : List UInt8) : Bool := decide (lexDigits s ≠ []) && decide ((lexDigits s).length ≤ 6) && (lexDigits s).all isDig && !(decide ((lexDigits s).head? = some 48) && decide (s ≠ [48]))
def intV (s : List UInt8) : Int := sgnV ([45].isPrefixOf s) (lexDigits s)

theorem m_lexdigit (c : UInt8) (h : Store) : Cm.m f_lexer_digit [.int .u8 c.toNat] h = some (.bool (isDig c), h) := by
  refine m_by t_lexer_digit (Gives_of rfl ?_)
  have hc := UInt8.toNat_lt c
  by_cases h1 : 48 ≤ c.toNat <;> by_cases h2 : c.toNat ≤ 57 <;> first | (exfalso; omega) | (simp (disch := omega) [e_lexer_digit, isDig, h1, h2] <;> omega) | simp (disch := omega) [e_lexer_digit, isDig, h1, h2]
theorem m_run_digit (s : List UInt8) (hs : s.length < 2 ^ 62) (h : Store) : Cm.m f_lexer_run [.str s, .fn f_lexer_digit [] []] h = some (.int .i64 (s.takeWhile isDig).length, h) := by
  refine m_by t_lexer_run (Gives_of rfl ?_)
  simp [e_lexer_run, l_lexer_run_0]
  refine V.loop (fun n : Nat => n ≤ s.length ∧ ∀ c ∈ s.take n, isDig c = true) (fun n => (mkL 20 .any [(0, .str s), (1, .fn f_lexer_digit [] []), (5, .int .i64 n)], h)) (fun n => s.length - n) ?_ 0 ⟨Nat.zero_le _, by simp⟩ ?_
  · rintro n ⟨hn, ha⟩
    by_cases h1 : n < s.length
    · obtain ⟨x, hx⟩ : ∃ x, s[n] = x := ⟨_, rfl⟩
      have hw := m_lexdigit x
      by_cases hd : isDig x = true
      · rw [hd] at hw
        simp (disch := omega) [hx, hw]
        refine ⟨n + 1, ⟨by omega, ?_⟩, by omega, by simp⟩
        rw [List.take_succ_eq_append_getElem h1, hx]
        intro c hc
        rcases List.mem_append.1 hc with hc | hc
        · exact ha c hc
        · rw [List.mem_singleton.1 hc]; exact hd
      · have e1 := takeWhile_len hn ha (fun _ => by rw [hx]; simpa using hd)
        have hd' : isDig x = false := by simpa using hd
        rw [hd'] at hw
        simp (disch := omega) [hx, hw, e1]
    · have e1 := takeWhile_len hn ha (fun h => absurd h h1)
      simp (disch := omega) [e1]
  · simp
theorem takeWhile_all {p : UInt8 → Bool} {s : List UInt8} : (s.takeWhile p).length = s.length ↔ s.all p = true := by
  induction s with
  | nil => simp
  | cons c s ih => cases hc : p c <;> simp [hc]; simpa using ih

theorem q_lexer_Value (s : List UInt8) (hs : s.length < 2 ^ 62) : Cm.q f_lexer_Value [.str s] = some (.tup [.int .i64 (if isInt s then intV s else 0), .bool (isInt s)]) := by
  refine q_by t_lexer_Value (Gives_of rfl ?_)
  have ht := q_TrimPrefix s [45]
  have hd : (if [45].isPrefixOf s then s.drop ([45] : List UInt8).length else s) = lexDigits s := rfl
  rw [hd] at ht
  have hsg : s = sgn ([45].isPrefixOf s) (lexDigits s) := by
    unfold sgn lexDigits
    cases s with
    | nil => rfl
    | cons c s =>
      by_cases h : c = 45
      · subst h; simp
      · have h2 : ¬ (45 : UInt8) = c := fun e => h e.symm
        simp [h2]
  have hlen : (lexDigits s).length ≤ s.length := by unfold lexDigits; split <;> simp
  by_cases c0 : lexDigits s = []
  · have e : isInt s = false := by simp [isInt, c0]
    simp (disch := omega) [e_lexer_Value, ht, c0, e]
  · by_cases c1 : (lexDigits s).length ≤ 6
    · have hr := m_run_digit (lexDigits s) (by omega)
      by_cases c2 : (lexDigits s).all isDig = true
      · have c2' := takeWhile_all.2 c2
        rw [c2'] at hr
        have hA : AllDig (lexDigits s) := by intro c hc; exact List.all_eq_true.1 c2 c hc
        have hat := q_sAtoi c1 hA c0 ([45].isPrefixOf s)
        rw [← hsg] at hat
        have hi : sgnV ([45].isPrefixOf s) (lexDigits s) = intV s := rfl
        rw [hi] at hat
        obtain ⟨c, e, hce⟩ : ∃ c e, lexDigits s = c :: e := by cases h : lexDigits s with | nil => exact absurd h c0 | cons c e => exact ⟨c, e, rfl⟩
        have hI : isInt s = !(decide (c = 48) && decide (s ≠ [48])) := by
          have c1e := c1
          have c2e := c2
          rw [hce] at c1e c2e
          unfold isInt
          rw [hce, decide_eq_true c1e, c2e]; simp
        rw [hce] at ht hr c1
        simp only [List.length_cons] at c1 hr
        by_cases c3 : c = 48
        · by_cases c4 : s = [48]
          · subst c3 c4
            simp (disch := omega) [e_lexer_Value, ht, hr, hat, hI]
          · subst c3
            simp (disch := omega) [e_lexer_Value, ht, hr, hat, c4, hI]
        · have c3' : ¬ c.toNat = 48 := fun h => c3 (UInt8.toNat_inj.1 h)
          simp (disch := omega) [e_lexer_Value, ht, hr, hat, c3, c3', hI]
      · have e : isInt s = false := by simp only [isInt]; simp [c2]
        have c2' : ¬ ((lexDigits s).takeWhile isDig).length = (lexDigits s).length := fun h => c2 (takeWhile_all.1 h)
        simp (disch := omega) [e_lexer_Value, ht, hr, c0, e]
    · have e : isInt s = false := by simp [isInt, c1]
      simp (disch := omega) [e_lexer_Value, ht, c0, e]
end Go.Proofs.YteaopgkajbfkeaaGreatDoor
namespace Go.Proofs.YteaopgkajbfkeaaGreatDoor
open Go

theorem coefS_len {n : Nat} {c d : Int} (hc : Bd n c) (hd : Bd n d) (h0 : d ≠ 0) : (coefS c d).length ≤ 6 * n + 5 := by
  have hAB : Bd n (c.natAbs : Int) := by unfold Bd at *; simpa using hc
  have b1 : Bd n ((c.natAbs : Int).fdiv (Int.gcd c d)) := Bd_fdiv hAB (Int.ofNat_dvd.2 (Nat.gcd_dvd_left _ _))
  have b2 : Bd n (d.fdiv (Int.gcd c d)) := Bd_fdiv hd (Int.gcd_dvd_right _ _)
  have l1 := itoa_len b1
  have l2 := itoa_len b2
  unfold coefS
  generalize (c.natAbs : Int).fdiv (Int.gcd c d) = A at *
  generalize d.fdiv (Int.gcd c d) = D at *
  split <;> simp <;> omega
theorem termS_len {n i : Nat} {c d : Int} {s : List UInt8} (hc : Bd n c) (hd : Bd n d) (h0 : d ≠ 0) : (termS i c d s).length ≤ s.length + (6 * n + 8) := by
  have h1 := coefS_len hc hd h0
  have h2 : (rootS i).length ≤ 2 := by unfold rootS; split <;> simp
  unfold termS
  repeat' split
  all_goals simp
  all_goals omega
theorem printN_len {z : ZNum} {n : Nat} (hB : z.B n) (hz : z.Ok) : (printN z).length ≤ 4 * (6 * n + 8) + 1 := by
  have h0 : z.d ≠ 0 := by have := hz.pos; omega
  have h : ∀ k, ((List.range k).foldl (fun s i => termS i (z.c4.get i) z.d s) []).length ≤ k * (6 * n + 8) := by
    intro k
    induction k with
    | zero => simp
    | succ k ih =>
      rw [prefix_succ]
      have := termS_len (i := k) (s := (List.range k).foldl (fun s i => termS i (z.c4.get i) z.d s) []) (B_c4 hB k) hB.hd h0
      rw [Nat.succ_mul]; omega
  have := h 4
  unfold printN
  split
  · simp
  · simp only [printS]; omega

/-- The written value of a number, and the error. -/
def valueZ (z : ZNum) : List UInt8 × Int :=
  if (parseN (printN z)).2 ≠ 0 then ([], 3) else if isInt (printN z) then (printN z, 0) else (34 :: (printN z ++ [34]), 0)

theorem q_format_Value {z : ZNum} {n : Nat} (hB : z.B n) (hz : z.Ok) (hn : n ≤ 2 ^ 20) : Cm.q f_format_Value [numA (ofN z)] = some (.tup [.str (valueZ z).1, .int .i64 (valueZ z).2]) := by
  refine q_by t_format_Value (Gives_of rfl ?_)
  have hlen := printN_len hB hz
  have hlen2 : (printN z).length ≤ 2 ^ 26 := by omega
  have k1 := q_Valid_ok hB hz (by omega)
  have k2 := q_field_Print hB hz hn
  have k3 := q_field_Parse (printN z) (by omega)
  have k4 := q_lexer_Value (printN z) (by omega)
  simp only [valueZ]
  generalize printN z = s at *
  generalize (parseN s).2 = e at *
  generalize (parseN s).1 = y at *
  by_cases c1 : e = 0
  · cases c2 : isInt s
    · simp (disch := omega) [e_format_Value, k1, k2, k3, k4, c1, c2]
    · simp (disch := omega) [e_format_Value, k1, k2, k3, k4, c1, c2]
  · simp (disch := omega) [e_format_Value, k1, k2, k3, c1]

/-- The writer: its parts and the error. -/
abbrev wr (o : Sl (List UInt8)) (e : Int) : Blk := ⟨[gA 1 .str o, .int .i64 e], 1, false, false⟩
structure WS where
  parts : Sl (List UInt8)
  e : Int
abbrev WS.blk (w : WS) : Blk := wr w.parts w.e
def WS.put (w : WS) (s : List UInt8) : WS := ⟨appS w.parts [s], w.e⟩
def WS.value (w : WS) (z : ZNum) : WS := WS.put ⟨w.parts, if w.e = 0 then (valueZ z).2 else w.e⟩ (valueZ z).1

theorem m_wput {o : Sl (List UInt8)} {e : Int} {h : Store} {b : Nat} (hb : getB h b = some (wr o e)) (s : List UInt8) (hn : (lst o).length < 2 ^ 30) : Cm.m f_format_writer_put [.ref b 0, .sl 1 [.str s]] h = some (.tup [], h.set b (WS.put ⟨o, e⟩ s).blk) := by
  have hl := lt_of_getB hb
  refine m_rd t_format_writer_put hb (Gives_of rfl ?_)
  have ha : appV 1 [AV.str s] (gA 1 AV.str o) = some (gA 1 .str (appS o [s])) := appV_gA1 (f := AV.str) (by simp only [LIM]; omega)
  simp [e_format_writer_put, hl, ha]
  exact ⟨[], rfl⟩

theorem m_wvalue {o : Sl (List UInt8)} {e : Int} {h : Store} {b : Nat} (hb : getB h b = some (wr o e)) {z : ZNum} {n : Nat} (hB : z.B n) (hz : z.Ok) (hn : n ≤ 2 ^ 20) (hl : (lst o).length < 2 ^ 30) : Cm.m f_format_writer_value [.ref b 0, numA (ofN z)] h = some (.tup [], h.set b (WS.value ⟨o, e⟩ z).blk) := by
  have hl' := lt_of_getB hb
  refine m_rd t_format_writer_value hb (Gives_of rfl ?_)
  have k1 := q_format_Value hB hz hn
  have k2 := fun e J => m_wput (o := o) (e := e) (h := stJ h b (wr o e) J) (b := b) (by rw [stJ_get hl']; rfl) (valueZ z).1 hl
  simp only [WS.value]
  by_cases c1 : e = 0
  · simp [e_format_writer_value, hl', k1, k2, c1]
    exact ⟨[⟨GNum.C (ofN z), 1, false, false⟩], rfl⟩
  · simp [e_format_writer_value, hl', k1, k2, c1]
    exact ⟨[⟨GNum.C (ofN z), 1, false, false⟩], rfl⟩
end Go.Proofs.YteaopgkajbfkeaaGreatDoor
namespace Go.Proofs.YteaopgkajbfkeaaGreatDoor
open Go

def refS (r : GRef) : List UInt8 := r.tier ++ 58 :: itoa r.index
def refsP (o : Sl (List UInt8)) (l : List GRef) : Sl (List UInt8) := l.foldl (fun o r => appS o [refS r]) o
theorem refsP_snoc (o : Sl (List UInt8)) (l : List GRef) (r : GRef) : refsP o (l ++ [r]) = appS (refsP o l) [refS r] := by simp [refsP]
theorem refsP_len (o : Sl (List UInt8)) (l : List GRef) : (lst (refsP o l)).length = (lst o).length + l.length := by
  induction l generalizing o with
  | nil => rfl
  | cons r l ih => show (lst (refsP (appS o [refS r]) l)).length = _; rw [ih]; simp; omega

structure RfSt where
  i : Nat
  J : Store

theorem m_wrefs {o : Sl (List UInt8)} {e : Int} {h : Store} {b : Nat} (hb : getB h b = some (wr o e)) (l : Sl GRef) (hl : (lst l).length < 2 ^ 20) (hn : (lst o).length < 2 ^ 20) (hr : ∀ r ∈ lst l, refOK r = true) :
    Cm.m f_format_writer_refs [.ref b 0, slA 2 (fun t => AV.agg (GRef.C t)) l] h = some (.tup [], h.set b (wr (refsP o (lst l)) e)) := by
  have hl' := lt_of_getB hb
  refine m_rd t_format_writer_refs hb (Gives_of rfl ?_)
  simp [e_format_writer_refs, l_format_writer_refs_0]
  refine V.loop (fun s : RfSt => s.i ≤ (lst l).length)
    (fun s => (mkL 23 .any [(0, .ref b 0), (6, slA 2 (fun t => AV.agg (GRef.C t)) l), (7, .int .i64 (lst l).length), (8, .int .i64 s.i)], stJ h b (wr (refsP o ((lst l).take s.i)) e) s.J)) (fun s => (lst l).length - s.i) ?_ ⟨0, []⟩ (Nat.zero_le _) ?_
  · rintro ⟨i, J⟩ hi
    dsimp only at hi
    by_cases h1 : i < (lst l).length
    · obtain ⟨x, hx⟩ : ∃ x, (lst l)[i] = x := ⟨_, rfl⟩
      have hxr := hr x (by rw [← hx]; exact List.getElem_mem h1)
      simp [refOK, isName, shortB] at hxr
      obtain ⟨⟨⟨⟨_, x1⟩, _⟩, _⟩, x2, x3⟩ := hxr
      have htk : refsP o ((lst l).take (i + 1)) = appS (refsP o ((lst l).take i)) [refS x] := by rw [List.take_succ_eq_append_getElem h1, hx, refsP_snoc]
      have hln := refsP_len o ((lst l).take i)
      rw [List.length_take, Nat.min_eq_left (by omega)] at hln
      have k1 := q_Itoa (z := x.index) (by omega) (by omega)
      have k0 : (itoa x.index).length ≤ 3 * 8 + 2 := itoa_len (by unfold Bd; omega)
      have k2 := fun s J => m_wput (o := refsP o ((lst l).take i)) (e := e) (h := stJ h b (wr (refsP o ((lst l).take i)) e) J) (b := b) (by rw [stJ_get hl']; rfl) s (by omega)
      generalize refsP o ((lst l).take i) = P at *
      simp (disch := omega) [hl', hx, k1, k2]
      exact ⟨⟨i + 1, J ++ [⟨GRef.C x, 1, false, false⟩]⟩, by simp only; omega, by simp only; omega, by simp, by simp only [htk]; rfl⟩
    · obtain rfl : i = (lst l).length := by omega
      simp [hl']
      exact ⟨J, rfl⟩
  · simp
    rfl

/-- The number that a valid number in memory is. -/
def toN (x : GNum) : ZNum := ⟨toZ x.c.a0, toZ x.c.a1, toZ x.c.a2, toZ x.c.a3, toZ x.d⟩
theorem toN_B {x : GNum} {n : Nat} (h : x.L n) : (toN x).B n := ⟨Bd_toZ h.h0, Bd_toZ h.h1, Bd_toZ h.h2, Bd_toZ h.h3, Bd_toZ h.hd⟩
theorem toN_ofN (z : ZNum) : toN (ofN z) = z := by
  obtain ⟨c0, c1, c2, c3, d⟩ := z
  simp only [toN, ofN, ZNum.arr, toZ_ofZ]
theorem ofN_toN {x : GNum} (h : validN x = true) : ofN (toN x) = x ∧ (toN x).Ok := by
  obtain ⟨z, rfl, hz⟩ := validN_iff.1 h
  rw [toN_ofN]; exact ⟨rfl, hz⟩

section
variable {h : Store} {b : Nat} {J : Store} {o : Sl (List UInt8)} {e : Int}
theorem j_put (hl : b < h.length) (s : List UInt8) (hn : (lst o).length < 2 ^ 30) : Cm.m f_format_writer_put [.ref b 0, .sl 1 [.str s]] (stJ h b (wr o e) J) = some (.tup [], stJ h b (wr (appS o [s]) e) J) := by
  rw [m_wput (by rw [stJ_get hl]; rfl) s hn]; simp [hl, WS.put]
theorem j_value (hl : b < h.length) {x : GNum} (hL : x.L 200) (hv : validN x = true) (hn : (lst o).length < 2 ^ 30) : Cm.m f_format_writer_value [.ref b 0, .agg (GNum.C x)] (stJ h b (wr o e) J) = some (.tup [], stJ h b (wr (appS o [(valueZ (toN x)).1]) (if e = 0 then (valueZ (toN x)).2 else e)) J) := by
  have h1 := m_wvalue (o := o) (e := e) (h := stJ h b (wr o e) J) (b := b) (by rw [stJ_get hl]; rfl) (toN_B hL) (ofN_toN hv).2 (by omega) hn
  rw [(ofN_toN hv).1] at h1
  rw [← numA, h1]; simp [hl, WS.value, WS.put]
theorem j_refs (hl : b < h.length) (l : Sl GRef) (hn : (lst l).length < 2 ^ 20) (ho : (lst o).length < 2 ^ 20) (hr : ∀ r ∈ lst l, refOK r = true) : Cm.m f_format_writer_refs [.ref b 0, slA 2 (fun t => AV.agg (GRef.C t)) l] (stJ h b (wr o e) J) = some (.tup [], stJ h b (wr (refsP o (lst l)) e) J) := by
  rw [m_wrefs (by rw [stJ_get hl]; rfl) l hn ho hr]; simp [hl]
end

theorem refsB_ok {l : List GRef} {n : Nat} (h : refsB l n = true) : l.length = n ∧ ∀ r ∈ l, refOK r = true := by
  simp only [refsB, Bool.and_eq_true, decide_eq_true_eq, List.all_eq_true] at h; exact h

section
variable {h : Store} {b : Nat} {f : GFix} {o : Sl (List UInt8)} {e : Int}
def WS.val (w : WS) (x : GNum) : WS := w.value (toN x)
def WS.refs (w : WS) (l : List GRef) : WS := ⟨refsP w.parts l, w.e⟩
def fixW (f : GFix) (w : WS) : WS :=
  if f.kind = 2 then (w.put [109,101,101,116]).refs (lst f.refs)
  else if f.kind = 3 then (((w.put [101,100,103,101]).refs (lst f.refs)).put [104,101,105,103,104,116]).val f.depth
  else if f.kind = 4 then (((w.put [116,104,114,111,117,103,104]).val f.point.x).val f.point.y).val f.point.z
  else (w.put [100,101,112,116,104]).val f.depth

theorem m_wdepth (hb : getB h b = some (wr o e)) (hf : GFix.L f) (hv : validN f.depth = true) (hn : (lst o).length < 2 ^ 16) : Cm.m f_format_writer_depth [.ref b 0, .agg (GFix.C f)] h = some (.tup [], h.set b (((WS.mk o e).put [100,101,112,116,104]).val f.depth).blk) := by
  have hl := lt_of_getB hb
  refine m_rd t_format_writer_depth hb (Gives_of rfl ?_)
  have k1 := fun J o e => j_put (h := h) (b := b) (J := J) (o := o) (e := e) hl
  have k2 := fun J o e => j_value (h := h) (b := b) (J := J) (o := o) (e := e) hl hf.d hv
  simp (disch := first | omega | (simp; omega)) [e_format_writer_depth, hl, k1, k2]
  exact ⟨[⟨GFix.C f, 1, false, false⟩], rfl⟩
theorem m_wmeet (hb : getB h b = some (wr o e)) (hr : refsB (lst f.refs) 3 = true) (hn : (lst o).length < 2 ^ 16) : Cm.m f_format_writer_meet [.ref b 0, .agg (GFix.C f)] h = some (.tup [], h.set b (((WS.mk o e).put [109,101,101,116]).refs (lst f.refs)).blk) := by
  have hl := lt_of_getB hb
  refine m_rd t_format_writer_meet hb (Gives_of rfl ?_)
  obtain ⟨r1, r2⟩ := refsB_ok hr
  have k1 := fun J o e => j_put (h := h) (b := b) (J := J) (o := o) (e := e) hl
  have k2 := fun J o e ho => j_refs (h := h) (b := b) (J := J) (o := o) (e := e) hl f.refs (by omega) ho r2
  simp (disch := first | omega | (simp; omega)) [e_format_writer_meet, hl, k1, k2]
  exact ⟨[⟨GFix.C f, 1, false, false⟩], rfl⟩
theorem m_wlevel (hb : getB h b = some (wr o e)) (hf : GFix.L f) (hv : validN f.depth = true) (hr : refsB (lst f.refs) 2 = true) (hn : (lst o).length < 2 ^ 16) :
    Cm.m f_format_writer_level [.ref b 0, .agg (GFix.C f)] h = some (.tup [], h.set b (((((WS.mk o e).put [101,100,103,101]).refs (lst f.refs)).put [104,101,105,103,104,116]).val f.depth).blk) := by
  have hl := lt_of_getB hb
  refine m_rd t_format_writer_level hb (Gives_of rfl ?_)
  obtain ⟨r1, r2⟩ := refsB_ok hr
  have k1 := fun J o e => j_put (h := h) (b := b) (J := J) (o := o) (e := e) hl
  have k2 := fun J o e ho => j_refs (h := h) (b := b) (J := J) (o := o) (e := e) hl f.refs (by omega) ho r2
  have k3 := fun J o e => j_value (h := h) (b := b) (J := J) (o := o) (e := e) hl hf.d hv
  simp (disch := first | omega | (simp; omega) | (simp only [refsP_len, lst_appS, List.length_append, List.length_cons, List.length_nil]; omega)) [e_format_writer_level, hl, k1, k2, k3]
  exact ⟨[⟨GFix.C f, 1, false, false⟩], rfl⟩
theorem m_wpoint (hb : getB h b = some (wr o e)) (hf : GFix.L f) (hv : validV f.point = true) (hn : (lst o).length < 2 ^ 16) :
    Cm.m f_format_writer_point [.ref b 0, .agg (GFix.C f)] h = some (.tup [], h.set b (((((WS.mk o e).put [116,104,114,111,117,103,104]).val f.point.x).val f.point.y).val f.point.z).blk) := by
  have hl := lt_of_getB hb
  refine m_rd t_format_writer_point hb (Gives_of rfl ?_)
  simp only [validV, Bool.and_eq_true] at hv
  obtain ⟨⟨v1, v2⟩, v3⟩ := hv
  have k1 := fun J o e => j_put (h := h) (b := b) (J := J) (o := o) (e := e) hl
  have k2 := fun J o e => j_value (h := h) (b := b) (J := J) (o := o) (e := e) hl hf.p.hx v1
  have k3 := fun J o e => j_value (h := h) (b := b) (J := J) (o := o) (e := e) hl hf.p.hy v2
  have k4 := fun J o e => j_value (h := h) (b := b) (J := J) (o := o) (e := e) hl hf.p.hz v3
  simp (disch := first | omega | (simp; omega) | (simp only [lst_appS, List.length_append, List.length_cons, List.length_nil]; omega)) [e_format_writer_point, hl, k1, k2, k3, k4]
  exact ⟨[⟨GFix.C f, 1, false, false⟩], rfl⟩

theorem m_wfix (hb : getB h b = some (wr o e)) (hf : GFix.L f) (hc : canFixB f = true) (hn : (lst o).length < 2 ^ 16) :
    Cm.m f_format_writer_fix [.ref b 0, .agg (GFix.C f)] h = some (.tup [], h.set b (fixW f ⟨o, e⟩).blk) := by
  have hl := lt_of_getB hb
  refine m_rd t_format_writer_fix hb (Gives_of rfl ?_)
  have hg : ∀ J, getB (stJ h b (wr o e) J) b = some (wr o e) := fun J => by rw [stJ_get hl]; rfl
  unfold canFixB at hc
  by_cases c1 : f.kind = 1
  · simp only [c1, if_true, Bool.and_eq_true] at hc
    have k := fun J => m_wdepth (hg J) hf hc.1.1 hn
    simp (disch := omega) [e_format_writer_fix, hl, k, c1, fixW]
    exact ⟨[⟨GFix.C f, 1, false, false⟩], rfl⟩
  · by_cases c2 : f.kind = 2
    · simp [c2] at hc
      have k := fun J => m_wmeet (f := f) (hg J) hc.2 hn
      simp (disch := omega) [e_format_writer_fix, hl, k, c2, fixW]
      exact ⟨[⟨GFix.C f, 1, false, false⟩], rfl⟩
    · by_cases c3 : f.kind = 3
      · simp [c3] at hc
        have k := fun J => m_wlevel (f := f) (hg J) hf hc.1.1 hc.2 hn
        simp (disch := omega) [e_format_writer_fix, hl, k, c3, fixW]
        exact ⟨[⟨GFix.C f, 1, false, false⟩], rfl⟩
      · by_cases c4 : f.kind = 4
        · simp [c4] at hc
          have k := fun J => m_wpoint (f := f) (hg J) hf hc.1.2 hn
          simp (disch := omega) [e_format_writer_fix, hl, k, c4, fixW]
          exact ⟨[⟨GFix.C f, 1, false, false⟩], rfl⟩
        · simp [c1, c2, c3, c4] at hc
end
end Go.Proofs.YteaopgkajbfkeaaGreatDoor
namespace Go.Proofs.YteaopgkajbfkeaaGreatDoor
open Go

theorem strsOf_map (l : List (List UInt8)) : strsOf (l.map AV.str) = some l := by
  induction l with
  | nil => rfl
  | cons s l ih => simp [strsOf, ih]
theorem q_Join (o : Sl (List UInt8)) (sep : List UInt8) (h1 : (List.intercalate sep (lst o)).length ≤ 17179869184) (h2 : (lst o).length ≤ 17179869184) : Cm.q f_strings_Join [slA 1 .str o, .str sep] = some (.str (List.intercalate sep (lst o))) := by
  refine q_prim t_strings_Join ?_
  cases o with
  | none => rfl
  | some l => simp only [lst, Option.getD_some] at h1 h2; simp [slA, joinP, strsOf_map, lst, LIM, h1, h2]

theorem inter_len {M : Nat} (l : List (List UInt8)) (h : ∀ p ∈ l, p.length ≤ M) : (List.intercalate [32] l).length ≤ l.length * (M + 1) := by
  induction l with
  | nil => simp [List.intercalate]
  | cons x l ih =>
    have h1 := h x (by simp)
    have h2 := ih (fun p hp => h p (by simp [hp]))
    cases l with
    | nil => simp [List.intercalate]; omega
    | cons y l =>
      have e : List.intercalate [32] (x :: y :: l) = x ++ [32] ++ List.intercalate [32] (y :: l) := by simp [List.intercalate]
      rw [e]
      simp only [List.length_append, List.length_cons, List.length_nil, Nat.succ_mul] at *
      omega

/-- A writer whose parts are few and short. -/
structure WS.S (k : Nat) (w : WS) : Prop where
  n : (lst w.parts).length ≤ k
  p : ∀ p ∈ lst w.parts, p.length ≤ 10000
theorem WS.S.put {k : Nat} {w : WS} (h : w.S k) {s : List UInt8} (hs : s.length ≤ 10000) : (w.put s).S (k + 1) := by
  refine ⟨?_, ?_⟩
  · simp only [WS.put, lst_appS, List.length_append, List.length_cons, List.length_nil]; have := h.n; omega
  · intro p hp
    simp only [WS.put, lst_appS, List.mem_append, List.mem_singleton] at hp
    rcases hp with hp | rfl
    · exact h.p p hp
    · exact hs
theorem WS.S.val {k : Nat} {w : WS} (h : w.S k) {x : GNum} (hL : x.L 200) (hv : validN x = true) : (w.val x).S (k + 1) := by
  have hl := printN_len (toN_B hL) (ofN_toN hv).2
  have h2 : WS.S k ⟨w.parts, if w.e = 0 then (valueZ (toN x)).2 else w.e⟩ := ⟨h.n, h.p⟩
  refine WS.S.put (s := (valueZ (toN x)).1) h2 ?_
  unfold valueZ
  repeat' split
  all_goals simp
  all_goals omega
theorem WS.S.refs {k : Nat} {w : WS} (h : w.S k) {l : List GRef} (hr : ∀ r ∈ l, refOK r = true) : (w.refs l).S (k + l.length) := by
  induction l generalizing k w with
  | nil => exact h
  | cons r l ih =>
    have h1 := hr r (by simp)
    simp [refOK, isName, shortB] at h1
    obtain ⟨⟨⟨⟨_, x1⟩, _⟩, _⟩, x2, x3⟩ := h1
    have k0 : (itoa r.index).length ≤ 3 * 8 + 2 := itoa_len (by unfold Bd; omega)
    have h2 := ih (k := k + 1) (w := w.put (refS r)) (h.put (by simp [refS]; omega)) (fun r hx => hr r (by simp [hx]))
    have e : k + (r :: l).length = k + 1 + l.length := by simp; omega
    rw [e]; exact h2
theorem fixW_S {f : GFix} (hf : GFix.L f) (hc : canFixB f = true) : (fixW f ⟨none, 0⟩).S 10 := by
  have h0 : WS.S 0 ⟨none, 0⟩ := ⟨by simp, by simp⟩
  have mono : ∀ {a : Nat} {w : WS}, w.S a → a ≤ 10 → w.S 10 := fun h h' => ⟨Nat.le_trans h.n h', h.p⟩
  unfold canFixB at hc
  unfold fixW
  by_cases c1 : f.kind = 1
  · simp [c1] at hc ⊢
    exact mono ((h0.put (by simp)).val hf.d hc.1.1) (by omega)
  · by_cases c2 : f.kind = 2
    · simp [c2] at hc ⊢
      obtain ⟨r1, r2⟩ := refsB_ok hc.2
      exact mono ((h0.put (by simp)).refs r2) (by omega)
    · by_cases c3 : f.kind = 3
      · simp [c3] at hc ⊢
        obtain ⟨r1, r2⟩ := refsB_ok hc.2
        exact mono ((((h0.put (by simp)).refs r2).put (by simp)).val hf.d hc.1.1) (by omega)
      · by_cases c4 : f.kind = 4
        · simp [c4] at hc ⊢
          have hv := hc.1.2
          simp only [validV, Bool.and_eq_true] at hv
          exact mono ((((h0.put (by simp)).val hf.p.hx hv.1.1).val hf.p.hy hv.1.2).val hf.p.hz hv.2) (by omega)
        · simp [c1, c2, c3, c4] at hc

def lineW (w : WS) : List UInt8 × Int := if w.e = 0 then (List.intercalate [32] (lst w.parts), 0) else ([], w.e)
theorem m_wline {h : Store} {b : Nat} {o : Sl (List UInt8)} {e : Int} (hb : getB h b = some (wr o e)) (hs : WS.S 10 ⟨o, e⟩) : Cm.m f_format_writer_line [.ref b 0] h = some (.tup [.str (lineW ⟨o, e⟩).1, .int .i64 (lineW ⟨o, e⟩).2], h.set b (wr o e)) := by
  have hl := lt_of_getB hb
  refine m_rd t_format_writer_line hb (Gives_of rfl ?_)
  have hs1 := hs.n
  have hs2 := inter_len (lst o) hs.p
  simp only at hs1
  have hj := q_Join o [32] (by omega) (by omega)
  by_cases c : e = 0
  · simp (disch := omega) [e_format_writer_line, hl, hj, c, lineW]
    exact ⟨[], rfl⟩
  · simp (disch := omega) [e_format_writer_line, hl, hj, c, lineW]
    exact ⟨[], rfl⟩

/-- The text of a fix, and the error. -/
def fixF (f : GFix) : List UInt8 × Int := if canFixB f then lineW (fixW f ⟨none, 0⟩) else ([], 1)

theorem q_Fix (f : GFix) (hf : GFix.L f) : Cm.q f_format_Fix [.agg (GFix.C f)] = some (.tup [.str (fixF f).1, .int .i64 (fixF f).2]) := by
  refine q_by t_format_Fix (Gives_of rfl ?_)
  have k1 := q_canFix f hf
  cases c : canFixB f
  · simp (disch := omega) [e_format_Fix, k1, c, fixF]
  · have k2 : Cm.m f_format_writer_fix [.ref 1 0, .agg (GFix.C f)] [⟨GFix.C f, 1, false, false⟩, ⟨[.nils, .int .i64 0], 1, false, false⟩] = some (.tup [], [⟨GFix.C f, 1, false, false⟩, (fixW f ⟨none, 0⟩).blk]) :=
      m_wfix (f := f) (h := [⟨GFix.C f, 1, false, false⟩, wr none 0]) (b := 1) (o := none) (e := 0) rfl hf c (by simp)
    have hF : fixF f = lineW (fixW f ⟨none, 0⟩) := by simp [fixF, c]
    have hS := fixW_S hf c
    generalize fixW f ⟨none, 0⟩ = w at *
    have k3 : Cm.m f_format_writer_line [.ref 1 0] [⟨GFix.C f, 1, false, false⟩, w.blk] = some (.tup [.str (lineW w).1, .int .i64 (lineW w).2], [⟨GFix.C f, 1, false, false⟩, w.blk]) :=
      m_wline (h := [⟨GFix.C f, 1, false, false⟩, w.blk]) (b := 1) (o := w.parts) (e := w.e) rfl hS
    simp (disch := omega) [e_format_Fix, k1, c, k2, k3, hF]
end Go.Proofs.YteaopgkajbfkeaaGreatDoor
namespace Go.Proofs.YteaopgkajbfkeaaGreatDoor
open Go

/-- Whether an order is positive and divides the wheel. -/
def divB (n : Int) : Bool := decide (0 < n) && decide ((24 : Int).tmod n = 0)
theorem q_divides (n : Int) : Cm.q f_tier_divides [.int .i64 n] = some (.bool (divB n)) := by
  refine q_by t_tier_divides (Gives_of rfl ?_)
  by_cases h : 0 < n
  · have h0 : n ≠ 0 := by omega
    simp (disch := omega) [e_tier_divides, divB, h, h0]
    rfl
  · simp (disch := omega) [e_tier_divides, divB, h]

/-- The marked positions. -/
def posL (l : List Bool) (k : Nat) : Sl Int := (List.range k).foldl (fun o i => if l.getD i false then appS o [(i : Int)] else o) none
theorem posL_succ (l : List Bool) (k : Nat) : posL l (k + 1) = if l.getD k false then appS (posL l k) [(k : Int)] else posL l k := by
  unfold posL; rw [List.range_succ, List.foldl_append]; rfl
theorem posL_len (l : List Bool) (k : Nat) : (lst (posL l k)).length ≤ k := by
  induction k with
  | zero => simp [posL]
  | succ k ih =>
    rw [posL_succ]; split
    · rw [lst_appS]; simp; omega
    · omega

theorem untip_bools (l : List Bool) : (mapV AV.bool l).map AV.untip = mapV AV.bool l := by
  simp only [mapV, List.map_map]; rfl
theorem part_bools {l : List Bool} (hl : l.length = 24) : partOf true 24 0 (.agg (mapV AV.bool l)) = some (.agg (mapV AV.bool l)) := by
  have h : (mapV AV.bool l).length = 24 := by simp [hl]
  simp [partOf, hl, List.take_of_length_le (Nat.le_of_eq h)]
theorem q_list {l : List Bool} (hl : l.length = 24) : Cm.q f_tier_flags_list [.agg (mapV AV.bool l)] = some (slA 1 i64A (posL l 24)) := by
  refine q_by t_tier_flags_list (Gives_of rfl ?_)
  simp [e_tier_flags_list, l_tier_flags_list_0, hl, untip_bools, part_bools hl]
  refine V.loop (fun i : Nat => i ≤ 24) (fun i => (mkL 18 .any [(3, gA 1 i64A (posL l i)), (6, .agg (mapV AV.bool l)), (7, .int .i64 i)], [⟨mapV AV.bool l, 1, false, false⟩])) (fun i => 24 - i) ?_ 0 (Nat.zero_le _) ?_
  · intro i hi
    by_cases h1 : i < 24
    · have hb : i < l.length := by omega
      obtain ⟨x, hx⟩ : ∃ x, l[i] = x := ⟨_, rfl⟩
      have hp := posL_succ l i
      have hpl := posL_len l i
      have hg : l.getD i false = x := by rw [List.getD_eq_getElem?_getD, List.getElem?_eq_getElem hb, hx]; rfl
      rw [hg] at hp
      have ha : appV 1 [.int .i64 (i : Int)] (gA 1 i64A (posL l i)) = some (gA 1 i64A (appS (posL l i) [(i : Int)])) := appV_gA1 (f := i64A) (by simp only [LIM]; omega)
      cases x
      · simp (disch := omega) [hx]
        exact ⟨i + 1, by omega, by omega, by simp [hp]⟩
      · simp (disch := omega) [hx, ha]
        exact ⟨i + 1, by omega, by omega, by simp [hp]⟩
    · obtain rfl : i = 24 := by omega
      simp (disch := omega)
  · simp [posL]; rfl

/-- The place of an index. -/
def wi (n : Int) : Int := (n.tmod 24 + 24).tmod 24
theorem wi_bd (n : Int) : 0 ≤ wi n ∧ wi n < 24 := by
  have h1 := Int.tmod_lt_of_pos n (b := 24) (by omega)
  have h2 := Int.lt_tmod_of_pos n (b := 24) (by omega)
  unfold wi
  rw [Int.tmod_eq_emod_of_nonneg (by omega)]
  omega
def mark1 (i st : Nat) (mir : Bool) (l : List Bool) (k : Nat) : List Bool :=
  let l := l.set ((i + k * st) % 24) true
  if mir then l.set ((24 - i + k * st) % 24) true else l
/-- The marks of an orbit. -/
def markF (m : Nat) (mir : Bool) (i : Nat) (l : List Bool) : List Bool := (List.range m).foldl (mark1 i (24 / m) mir) l
theorem mark1_len {i st : Nat} {mir : Bool} {l : List Bool} {k : Nat} : (mark1 i st mir l k).length = l.length := by
  unfold mark1; split <;> simp
theorem foldl_mark_len {i st : Nat} {mir : Bool} {l : List Bool} {ks : List Nat} : (ks.foldl (mark1 i st mir) l).length = l.length := by
  induction ks generalizing l with
  | nil => rfl
  | cons k ks ih => rw [List.foldl_cons, ih, mark1_len]

theorem m_mark {h : Store} {b : Nat} {l : List Bool} (hb : getB h b = some ⟨mapV AV.bool l, 1, false, false⟩) (hl : l.length = 24) {m : Nat} (h1 : 1 ≤ m) (h2 : m ≤ 24) (mir : Bool) (x : Int) (hx1 : -9223372036854775808 ≤ x) (hx2 : x < 9223372036854775808) :
    Cm.m f_tier_flags_mark [.ref b 0, .int .i64 m, .bool mir, .int .i64 x] h = some (.tup [], h.set b ⟨mapV AV.bool (markF m mir (wi x).toNat l), 1, false, false⟩) := by
  have hl' := lt_of_getB hb
  refine m_rd t_tier_flags_mark hb (Gives_of rfl ?_)
  obtain ⟨w1, w2⟩ := wi_bd x
  obtain ⟨t, ht⟩ : ∃ t, x.tmod 24 = t := ⟨_, rfl⟩
  have t1 : t < 24 := by rw [← ht]; exact Int.tmod_lt_of_pos x (by omega)
  have t2 : -24 < t := by rw [← ht]; exact Int.lt_tmod_of_pos x (by omega)
  obtain ⟨w, hw⟩ : ∃ w : Nat, wi x = w := ⟨(wi x).toNat, by omega⟩
  have hw' : (t + 24).tmod 24 = w := by rw [← ht]; exact hw
  have hw2 : t % 24 = w := by rw [Int.tmod_eq_emod_of_nonneg (by omega)] at hw'; omega
  rw [hw] at w1 w2
  rw [hw, Int.toNat_natCast]
  have hs1 : 24 / m ≤ 24 := Nat.div_le_self _ _
  have hsI : (24 : Int) / (m : Int) = ((24 / m : Nat) : Int) := rfl
  unfold markF
  generalize 24 / m = st at *
  simp (disch := omega) [e_tier_flags_mark, l_tier_flags_mark_0, hl', ht, hw', hsI]
  refine V.loop (fun k : Nat => k ≤ m) (fun k => (mkL 42 .any [(0, .ref b 0), (2, .bool mir), (8, .int .i64 w), (9, .int .i64 st), (17, .int .i64 m), (18, .int .i64 k)], stJ h b ⟨mapV AV.bool ((List.range k).foldl (mark1 w st mir) l), 1, false, false⟩ [])) (fun k => m - k) ?_ 0 (Nat.zero_le _) ?_
  · intro k hk
    by_cases c : k < m
    · have hfl : ((List.range k).foldl (mark1 w st mir) l).length = 24 := by rw [foldl_mark_len, hl]
      have hsu : (List.range (k + 1)).foldl (mark1 w st mir) l = mark1 w st mir ((List.range k).foldl (mark1 w st mir) l) k := by rw [List.range_succ, List.foldl_append]; rfl
      generalize (List.range k).foldl (mark1 w st mir) l = L at *
      obtain ⟨q, hq⟩ : ∃ q, k * st = q := ⟨_, rfl⟩
      have hqI : (k : Int) * (st : Int) = (q : Int) := by rw [← hq]; simp
      have hqb : q ≤ 24 * 24 := by rw [← hq]; exact Nat.mul_le_mul (by omega) hs1
      have e1 : (((w : Int) + q) % 24).toNat = (w + k * st) % 24 := by rw [hq]; omega
      have e2 : ((24 - (w : Int) + q) % 24).toNat = (24 - w + k * st) % 24 := by rw [hq]; omega
      cases mir
      · simp (disch := omega) [hl', hqI]
        refine ⟨k + 1, by omega, by omega, by simp, ?_⟩
        rw [hsu, e1, set_mapV]; rfl
      · simp (disch := omega) [hl', hqI]
        refine ⟨k + 1, by omega, by omega, by simp, ?_⟩
        rw [hsu, e1, e2, set_mapV, set_mapV]; rfl
    · obtain rfl : k = m := by omega
      simp (disch := omega) [hl']
      exact ⟨[], rfl⟩
  · simp [hw2]
end Go.Proofs.YteaopgkajbfkeaaGreatDoor
namespace Go.Proofs.YteaopgkajbfkeaaGreatDoor
open Go

def I64 (n : Int) : Prop := -9223372036854775808 ≤ n ∧ n < 9223372036854775808
theorem divB_bd {n : Int} (h : divB n = true) : ∃ m : Nat, n = m ∧ 1 ≤ m ∧ m ≤ 24 := by
  simp only [divB, Bool.and_eq_true, decide_eq_true_eq] at h
  obtain ⟨h1, h2⟩ := h
  refine ⟨n.toNat, by omega, by omega, ?_⟩
  by_cases h3 : n ≤ 24
  · omega
  · rw [Int.tmod_eq_emod_of_nonneg (by omega), Int.emod_eq_of_lt (by omega) (by omega)] at h2
    omega
/-- No mark. -/
def fl0 : List Bool := List.replicate 24 false
theorem fl0_len : fl0.length = 24 := rfl
theorem fz_bools {h : Store} (l : List Bool) : freeze h (.agg (mapV AV.bool l)) = some (.agg (mapV AV.bool l)) := by
  show ((mapV AV.bool l).mapM (freezeN h 7)).map AV.agg = _
  rw [mapM_id]
  · rfl
  · intro c hc
    simp only [mapV, List.mem_map] at hc
    obtain ⟨b, _, rfl⟩ := hc
    rfl
theorem r_bools {h : Store} {d : Nat} (l : List Bool) : reachN h (d + 2) (.agg (mapV AV.bool l)) = [] := by
  show (mapV AV.bool l).flatMap (reachN h (d + 1)) = []
  rw [List.flatMap_eq_nil_iff]
  intro x hx
  simp only [mapV, List.mem_map] at hx
  obtain ⟨b, _, rfl⟩ := hx
  rfl
theorem zeroFlags : z_tier_flags.map KV.av = mapV AV.bool (fl0) := rfl
theorem zeroFlags_len : z_tier_flags.length = 24 := rfl

def orbitF (o : Int) (mir : Bool) (x : Int) : Sl Int := if divB o then posL (markF o.toNat mir (wi x).toNat (fl0)) 24 else none
theorem q_Orbit (o : Int) (mir : Bool) {x : Int} (hx : I64 x) : Cm.q f_tier_Orbit [.int .i64 o, .bool mir, .int .i64 x] = some (slA 1 i64A (orbitF o mir x)) := by
  refine q_by t_tier_Orbit (Gives_of rfl ?_)
  have k1 := q_divides o
  cases c : divB o
  · rw [c] at k1
    simp (disch := omega) [e_tier_Orbit, k1, orbitF, c, slA_nils]
  · rw [c] at k1
    obtain ⟨m, rfl, h1, h2⟩ := divB_bd c
    have k2 := m_mark (h := [⟨mapV AV.bool (fl0), 1, false, false⟩]) (b := 0) rfl rfl h1 h2 mir x hx.1 hx.2
    have hl : (markF m mir (wi x).toNat (fl0)).length = 24 := by unfold markF; rw [foldl_mark_len]; rfl
    have k3 := q_list hl
    simp only [orbitF, c, if_true, Int.toNat_natCast]
    generalize markF m mir (wi x).toNat (fl0) = L at *
    simp (disch := omega) [e_tier_Orbit, k1, k2, zeroFlags, zeroFlags_len, part_bools hl, untip_bools, k3, hl, fz_bools, r_bools, c]

def marksF (m : Nat) (mir : Bool) (l : List Int) : List Bool := l.foldl (fun L i => markF m mir (wi i).toNat L) (fl0)
theorem marksF_snoc (m : Nat) (mir : Bool) (l : List Int) (x : Int) : marksF m mir (l ++ [x]) = markF m mir (wi x).toNat (marksF m mir l) := by simp [marksF]
theorem marks_len (m : Nat) (mir : Bool) (l : List Int) : (marksF m mir l).length = 24 := by
  have h : ∀ (l : List Int) (L : List Bool), L.length = 24 → (l.foldl (fun L i => markF m mir (wi i).toNat L) L).length = 24 := by
    intro l
    induction l with
    | nil => intro L h; exact h
    | cons x l ih => intro L h; rw [List.foldl_cons]; apply ih; unfold markF; rw [foldl_mark_len, h]
  exact h l _ rfl
/-- The positions of a tier. -/
def posF (o : Int) (mir : Bool) (h : Int) (l : List Int) : Sl Int := if divB o then (if h = 0 then some [0] else posL (marksF o.toNat mir l) 24) else none

theorem q_Positions (o : Int) (mir : Bool) (t : GTier) (hl : (lst t.indices).length < 2 ^ 62) (hi : ∀ i ∈ lst t.indices, I64 i) : Cm.q f_tier_Positions [.int .i64 o, .bool mir, .agg (GTier.C t)] = some (slA 1 i64A (posF o mir t.h (lst t.indices))) := by
  refine q_by t_tier_Positions (Gives_of rfl ?_)
  have k1 := q_divides o
  cases c : divB o
  · rw [c] at k1
    simp (disch := omega) [e_tier_Positions, k1, posF, c, slA_nils]
  · rw [c] at k1
    obtain ⟨m, rfl, h1, h2⟩ := divB_bd c
    simp only [posF, c, if_true, Int.toNat_natCast]
    by_cases ch : t.h = 0
    · simp (disch := omega) [e_tier_Positions, k1, ch, c]
      rfl
    · simp (disch := omega) [e_tier_Positions, l_tier_Positions_0, k1, ch, zeroFlags, zeroFlags_len]
      refine V.loop (fun i : Nat => i ≤ (lst t.indices).length) (fun i => (mkL 31 .any [(0, .int .i64 m), (1, .bool mir), (7, .ref 1 0), (18, slA 1 i64A t.indices), (19, .int .i64 (lst t.indices).length), (20, .int .i64 i)], [⟨GTier.C t, 1, false, false⟩, ⟨mapV AV.bool (marksF m mir ((lst t.indices).take i)), 1, false, false⟩])) (fun i => (lst t.indices).length - i) ?_ 0 (Nat.zero_le _) ?_
      · intro i hle
        by_cases hlt : i < (lst t.indices).length
        · obtain ⟨x, hx⟩ : ∃ x, (lst t.indices)[i] = x := ⟨_, rfl⟩
          have hxi := hi x (by rw [← hx]; exact List.getElem_mem hlt)
          have hsn := marksF_snoc m mir ((lst t.indices).take i) x
          rw [← hx, ← List.take_succ_eq_append_getElem hlt, hx] at hsn
          have hml := marks_len m mir ((lst t.indices).take i)
          generalize marksF m mir ((lst t.indices).take i) = L at *
          have k2 := m_mark (h := [⟨GTier.C t, 1, false, false⟩, ⟨mapV AV.bool L, 1, false, false⟩]) (b := 1) rfl hml h1 h2 mir x hxi.1 hxi.2
          simp (disch := omega) [hx, k2]
          exact ⟨i + 1, by omega, by omega, by simp, by rw [hsn]⟩
        · obtain rfl : i = (lst t.indices).length := by omega
          have hml := marks_len m mir (lst t.indices)
          have k3 := q_list hml
          simp (disch := omega) [part_bools hml, untip_bools, k3, hml, fz_bools, r_bools, c, ch]
      · simp
        rfl
end Go.Proofs.YteaopgkajbfkeaaGreatDoor
namespace Go.Proofs.YteaopgkajbfkeaaGreatDoor
open Go

theorem gcd_tmod (a b : Int) : Int.gcd b (a.tmod b) = Int.gcd a b := by
  show Nat.gcd b.natAbs (a.tmod b).natAbs = Nat.gcd a.natAbs b.natAbs
  rw [Int.natAbs_tmod, Nat.gcd_comm b.natAbs, ← Nat.gcd_rec, Nat.gcd_comm]
theorem tmod_abs (a b : Int) (hb : b ≠ 0) : (a.tmod b).natAbs < b.natAbs := by
  rw [Int.natAbs_tmod]; exact Nat.mod_lt _ (by omega)

theorem q_gcd {a b : Int} (ha1 : -1000 ≤ a) (ha2 : a ≤ 1000) (hb1 : -1000 ≤ b) (hb2 : b ≤ 1000) : Cm.q f_tier_gcd [.int .i64 a, .int .i64 b] = some (.int .i64 (Int.gcd a b)) := by
  refine q_by t_tier_gcd (Gives_of rfl ?_)
  simp [e_tier_gcd, l_tier_gcd_0]
  refine V.loop (fun s : Int × Int => Int.gcd s.1 s.2 = Int.gcd a b ∧ (-1000 ≤ s.1 ∧ s.1 ≤ 1000) ∧ -1000 ≤ s.2 ∧ s.2 ≤ 1000) (fun s => (mkL 15 .any [(0, .int .i64 s.1), (1, .int .i64 s.2)], [])) (fun s => s.2.natAbs) ?_ (a, b) ⟨rfl, ⟨ha1, ha2⟩, hb1, hb2⟩ ?_
  · rintro ⟨x, y⟩ ⟨hg, ⟨x1, x2⟩, y1, y2⟩
    dsimp only at hg x1 x2 y1 y2
    by_cases c : y = 0
    · subst c
      have e : (Int.gcd a b : Int) = if x < -x then -x else x := by rw [← hg, Int.gcd_zero_right]; split <;> omega
      simp (disch := omega) [e]
    · have t1 := tmod_abs x y c
      have t2 := gcd_tmod x y
      rw [hg] at t2
      obtain ⟨t, ht⟩ : ∃ t, x.tmod y = t := ⟨_, rfl⟩
      rw [ht] at t1 t2
      simp (disch := omega) [c, ht]
      exact ⟨y, t, ⟨t2, ⟨y1, y2⟩, by omega, by omega⟩, t1, by simp⟩
  · simp

def angleB (h v : Int) : Bool := decide (0 ≤ h) && decide (h ≤ 1000) && decide (-1000 ≤ v) && decide (v ≤ 1000) && decide (Int.gcd h v = 1)
theorem q_angle (h v : Int) : Cm.q f_tier_angle [.int .i64 h, .int .i64 v] = some (.bool (angleB h v)) := by
  refine q_by t_tier_angle (Gives_of rfl ?_)
  by_cases c1 : 0 ≤ h
  · by_cases c2 : h ≤ 1000
    · by_cases c3 : -1000 ≤ v
      · by_cases c4 : v ≤ 1000
        · have k := q_gcd (a := h) (b := v) (by omega) c2 c3 c4
          have e : angleB h v = decide (Int.gcd h v = 1) := by simp [angleB, c1, c2, c3, c4]
          generalize Int.gcd h v = g at *
          by_cases c5 : g = 1 <;> simp (disch := omega) [e_tier_angle, k, e, c5]
          omega
        · simp (disch := omega) [e_tier_angle, angleB, c4]
      · simp (disch := omega) [e_tier_angle, angleB, c3]
    · simp (disch := omega) [e_tier_angle, angleB, c2]
  · simp (disch := omega) [e_tier_angle, angleB, c1]

theorem q_Index_int {l : Sl Int} (x : Int) (hl : (lst l).length < 2 ^ 62) : Cm.q f_slices_Index_int_int [slA 1 i64A l, .int .i64 x] = some (.int .i64 (idxI (fun y => decide (x = y)) (lst l))) := by
  refine q_by t_slices_Index_int_int (Gives_of rfl ?_)
  simp [e_slices_Index_int_int, l_slices_Index_int_int_0]
  refine V.loop (fun n : Nat => n ≤ (lst l).length ∧ ∀ y ∈ (lst l).take n, (fun y => decide (x = y)) y = false) (fun n => (mkL 19 .any [(0, slA 1 i64A l), (1, .int .i64 x), (7, .int .i64 (lst l).length), (8, .int .i64 n)], [])) (fun n => (lst l).length - n) ?_ 0 ⟨Nat.zero_le _, by simp⟩ ?_
  · rintro n ⟨hn, hx⟩
    by_cases h1 : n < (lst l).length
    · obtain ⟨y, hy⟩ : ∃ y, (lst l)[n] = y := ⟨_, rfl⟩
      by_cases hd : x = y
      · have e1 := idxI_at (p := fun y => decide (x = y)) h1 hx (by rw [hy]; simpa using hd)
        simp (disch := omega) [hy, e1]
      · simp (disch := omega) [hy]
        refine ⟨n + 1, ⟨by omega, ?_⟩, by omega, by simp⟩
        rw [List.take_succ_eq_append_getElem h1, hy]
        intro c hc
        rcases List.mem_append.1 hc with hc | hc
        · simpa using hx c hc
        · rw [List.mem_singleton.1 hc]; exact hd
    · have e1 := idxI_none (p := fun y => decide (x = y)) (l := lst l) (by rw [List.take_of_length_le (by omega)] at hx; exact hx)
      simp (disch := omega) [e1]
  · simp
def hasI (l : List Int) (x : Int) : Bool := l.any fun y => decide (x = y)
theorem m_Contains_int {l : Sl Int} (x : Int) {h : Store} (hl : (lst l).length < 2 ^ 62) : Cm.m f_slices_Contains_int_int [slA 1 i64A l, .int .i64 x] h = some (.bool (hasI (lst l) x), h) := by
  have h1 := q_Index_int (l := l) x hl
  refine m_by t_slices_Contains_int_int (Gives_of rfl ?_)
  have h2 := idxI_any (fun y => decide (x = y)) (lst l)
  simp only [hasI]
  simp (disch := omega) [e_slices_Contains_int_int, h1, ← h2]
theorem q_Contains_int {l : Sl Int} (x : Int) (hl : (lst l).length < 2 ^ 62) : Cm.q f_slices_Contains_int_int [slA 1 i64A l, .int .i64 x] = some (.bool (hasI (lst l) x)) := by
  have h1 := q_Index_int (l := l) x hl
  refine q_by t_slices_Contains_int_int (Gives_of rfl ?_)
  have h2 := idxI_any (fun y => decide (x = y)) (lst l)
  simp only [hasI]
  simp (disch := omega) [e_slices_Contains_int_int, h1, ← h2]
end Go.Proofs.YteaopgkajbfkeaaGreatDoor
namespace Go.Proofs.YteaopgkajbfkeaaGreatDoor
open Go

def badI (t : GTier) (i : Int) : Bool := decide (i < 0) || decide (24 ≤ i) || (decide (t.h = 0) && !decide (i = 0))
def wheelB (t : GTier) : Bool := decide (1 ≤ (lst t.indices).length) && decide ((lst t.indices).length ≤ 24) && !(lst t.indices).any (badI t)
theorem m_wheel1 {t : GTier} {h : Store} {b : Nat} (hb : getB h b = some ⟨GTier.C t, 1, false, false⟩) (i : Int) : Cm.m f_tier_wheel_1 [.int .i64 i, .ref b 0] h = some (.bool (badI t i), h) := by
  refine m_by t_tier_wheel_1 (Gives_of rfl ?_)
  by_cases c1 : i < 0
  · simp (disch := omega) [e_tier_wheel_1, hb, badI, c1]
  · by_cases c2 : 24 ≤ i
    · simp (disch := omega) [e_tier_wheel_1, hb, badI, c2]
    · have e : badI t i = (decide (t.h = 0) && !decide (i = 0)) := by simp [badI, c1]; omega
      by_cases c3 : t.h = 0
      · by_cases c4 : i = 0
        · subst c4; simp (disch := omega) [e_tier_wheel_1, hb, e, c3]
        · simp (disch := omega) [e_tier_wheel_1, hb, e, c3, c4]
      · simp (disch := omega) [e_tier_wheel_1, hb, e, c3]
theorem q_wheel (t : GTier) : Cm.q f_tier_wheel [.agg (GTier.C t)] = some (.bool (wheelB t)) := by
  refine q_by t_tier_wheel (Gives_of rfl ?_)
  by_cases c1 : 1 ≤ (lst t.indices).length
  · by_cases c2 : (lst t.indices).length ≤ 24
    · have k := m_ContainsFunc_int (l := t.indices) (g := f_tier_wheel_1) (a := []) (b := [.ref 0 0]) (p := badI t) (h := [⟨GTier.C t, 1, false, false⟩]) (by omega) rfl rfl (fun x _ => m_wheel1 rfl x)
      have e : wheelB t = !(lst t.indices).any (badI t) := by simp [wheelB, c1, c2]
      generalize (lst t.indices).any (badI t) = B at *
      simp (disch := omega) [e_tier_wheel, k, e]
    · simp (disch := omega) [e_tier_wheel, wheelB, c2]
  · simp (disch := omega) [e_tier_wheel, wheelB, c1]

theorem m_fault1 {t : GTier} {h : Store} {b : Nat} (hb : getB h b = some ⟨GTier.C t, 1, false, false⟩) (x : GTier) : Cm.m f_tier_fault_1 [.agg (GTier.C x), .ref b 0] h = some (.bool (decide (x.name = t.name)), h) := by
  refine m_by t_tier_fault_1 (Gives_of rfl ?_)
  have hl := lt_of_getB hb
  have kx : ∀ J, getB (h ++ J) b = some ⟨GTier.C t, 1, false, false⟩ := fun J => getB_app_some hb
  simp (disch := omega) [e_tier_fault_1, kx]
  rw [Bool.eq_iff_iff]; simp

def isAt (r : GRef) (f : GFacet) : Bool := decide (f.tier = r.tier) && decide (f.pos.index = r.index)
theorem m_Find1 {r : GRef} {h : Store} {b : Nat} (hb : getB h b = some ⟨GRef.C r, 1, false, false⟩) (x : GFacet) : Cm.m f_tier_Find_1 [.agg (GFacet.C x), .ref b 0] h = some (.bool (isAt r x), h) := by
  refine m_by t_tier_Find_1 (Gives_of rfl ?_)
  have hl := lt_of_getB hb
  have kx : ∀ J, getB (h ++ J) b = some ⟨GRef.C r, 1, false, false⟩ := fun J => getB_app_some hb
  by_cases c : x.tier = r.tier <;> simp (disch := omega) [e_tier_Find_1, kx, isAt, c]
  rw [Bool.eq_iff_iff]; simp

theorem q_Find (l : Sl GFacet) (r : GRef) (hl : (lst l).length < 2 ^ 62) : Cm.q f_tier_Find [slA 14 (fun t => AV.agg (GFacet.C t)) l, .agg (GRef.C r)] = some (.tup [.int .i64 (if idxI (isAt r) (lst l) < 0 then 0 else idxI (isAt r) (lst l)), .bool ((lst l).any (isAt r))]) := by
  refine q_by t_tier_Find (Gives_of rfl ?_)
  have k := m_IndexFunc_Facet (l := l) (g := f_tier_Find_1) (a := []) (b := [.ref 0 0]) (p := isAt r) (h := [⟨GRef.C r, 1, false, false⟩]) hl rfl rfl (fun x _ => m_Find1 rfl x)
  have h2 := idxI_any (isAt r) (lst l)
  have h3 := idxI_ge (isAt r) (lst l)
  rw [← h2]
  generalize idxI (isAt r) (lst l) = n at *
  by_cases c : n < 0
  · simp (disch := omega) [e_tier_Find, k, c] <;> omega
  · simp (disch := omega) [e_tier_Find, k, c] <;> omega

theorem m_fault3 {l : Sl GFacet} (hl : (lst l).length < 2 ^ 62) {h : Store} {b : Nat} (hb : getB h b = some ⟨[slA 14 (fun t => AV.agg (GFacet.C t)) l], 1, false, false⟩) (r : GRef) : Cm.m f_tier_fault_3 [.agg (GRef.C r), .ref b 0] h = some (.bool (!(lst l).any (isAt r)), h) := by
  refine m_by t_tier_fault_3 (Gives_of rfl ?_)
  have hl := lt_of_getB hb
  have kx : ∀ J, getB (h ++ J) b = some ⟨[slA 14 (fun t => AV.agg (GFacet.C t)) l], 1, false, false⟩ := fun J => getB_app_some hb
  have k := q_Find l r (by assumption)
  generalize (lst l).any (isAt r) = B at *
  simp (disch := omega) [e_tier_fault_3, kx, k]

def clash (t : GTier) (own : List Int) (f : GFacet) : Bool := decide (f.pos.h = t.h) && decide (f.pos.v = t.v) && hasI own f.pos.index
theorem m_fault2 {t : GTier} {o : Sl Int} (ho : (lst o).length < 2 ^ 62) {h : Store} {b c : Nat} (hb : getB h b = some ⟨GTier.C t, 1, false, false⟩) (hc : getB h c = some ⟨[slA 1 i64A o], 1, false, false⟩) (f : GFacet) :
    Cm.m f_tier_fault_2 [.agg (GFacet.C f), .ref b 0, .ref c 0] h = some (.bool (clash t (lst o) f), h) := by
  refine m_by t_tier_fault_2 (Gives_of rfl ?_)
  have kx : ∀ J, getB (h ++ J) b = some ⟨GTier.C t, 1, false, false⟩ := fun J => getB_app_some hb
  have ky : ∀ J, getB (h ++ J) c = some ⟨[slA 1 i64A o], 1, false, false⟩ := fun J => getB_app_some hc
  have k := q_Contains_int (l := o) f.pos.index ho
  by_cases c1 : f.pos.h = t.h
  · by_cases c2 : f.pos.v = t.v
    · simp (disch := omega) [e_tier_fault_2, kx, ky, k, clash, c1, c2]
    · simp (disch := omega) [e_tier_fault_2, kx, ky, clash, c1, c2]
  · simp (disch := omega) [e_tier_fault_2, kx, ky, clash, c1]

def twiceAt (o : Int) (mir : Bool) (h : Int) (l : List Int) (k : Nat) : Bool := decide (0 < k) && hasI (lst (posF o mir h (l.take k))) (l.getD k 0)
def twiceB (o : Int) (mir : Bool) (h : Int) (l : List Int) : Bool := (List.range l.length).any (twiceAt o mir h l)
theorem posF_len (o : Int) (mir : Bool) (h : Int) (l : List Int) : (lst (posF o mir h l)).length ≤ 24 := by
  unfold posF
  repeat' split
  · simp [lst]
  · exact posL_len _ _
  · simp

set_option maxHeartbeats 1000000 in
theorem q_twice (d : GDesign) (t : GTier) (hl : (lst t.indices).length < 2 ^ 62) (hi : ∀ i ∈ lst t.indices, I64 i) : Cm.q f_tier_twice [.agg (GDesign.C d), .agg (GTier.C t)] = some (.bool (twiceB d.order d.mirror t.h (lst t.indices))) := by
  refine q_by t_tier_twice (Gives_of rfl ?_)
  simp (disch := omega) [e_tier_twice, l_tier_twice_0]
  refine V.loop (fun s : Nat × Store => s.1 ≤ (lst t.indices).length ∧ (∀ k, k < s.1 → twiceAt d.order d.mirror t.h (lst t.indices) k = false) ∧ getB s.2 0 = some ⟨GDesign.C d, 1, false, false⟩ ∧ getB s.2 1 = some ⟨GTier.C t, 1, false, false⟩) (fun s => (mkL 36 .any [(2, .ref 0 0), (3, .ref 1 0), (9, .int .i64 (lst t.indices).length), (10, .int .i64 s.1)], s.2)) (fun s => (lst t.indices).length - s.1) ?_ (0, [⟨GDesign.C d, 1, false, false⟩, ⟨GTier.C t, 1, false, false⟩]) ⟨Nat.zero_le _, by simp, by simp, by simp⟩ ?_
  · rintro ⟨n, h⟩ ⟨hn, ha, k0, k1⟩
    dsimp only at hn ha k0 k1
    have kx : ∀ J, getB (h ++ J) 0 = some ⟨GDesign.C d, 1, false, false⟩ := fun J => getB_app_some k0
    have ky : ∀ J, getB (h ++ J) 1 = some ⟨GTier.C t, 1, false, false⟩ := fun J => getB_app_some k1
    by_cases c : n < (lst t.indices).length
    · obtain ⟨x, hx⟩ : ∃ x, (lst t.indices)[n] = x := ⟨_, rfl⟩
      have ht : twiceAt d.order d.mirror t.h (lst t.indices) n = (decide (0 < n) && hasI (lst (posF d.order d.mirror t.h ((lst t.indices).take n))) x) := by
        simp only [twiceAt, List.getD_eq_getElem?_getD, List.getElem?_eq_getElem c, hx, Option.getD_some]
      have hp := q_Positions d.order d.mirror { t with indices := cutS t.indices 0 n } (by rw [lst_cutS]; simp; omega) (by rw [lst_cutS]; intro i h; simp at h; exact hi i (List.mem_of_mem_take h))
      simp only [lst_cutS, List.drop_zero] at hp
      have hset : (GTier.C t).set 3 (slA 1 i64A (cutS t.indices 0 n)) = GTier.C { t with indices := cutS t.indices 0 n } := rfl
      have hc := q_Contains_int (l := posF d.order d.mirror t.h ((lst t.indices).take n)) x (Nat.lt_of_le_of_lt (posF_len _ _ _ _) (by omega))
      simp (disch := omega) [k0, k1, kx, ky, hx]
      rw [slslV_slA_hi (n := n) (by simp (disch := omega)) (by omega)]
      have next : twiceAt d.order d.mirror t.h (lst t.indices) n = false → ∀ k, k < n + 1 → twiceAt d.order d.mirror t.h (lst t.indices) k = false := by
        intro e k hk
        by_cases h : k = n
        · rw [h]; exact e
        · exact ha k (by omega)
      by_cases c0 : 0 < n
      · cases hb : hasI (lst (posF d.order d.mirror t.h ((lst t.indices).take n))) x
        · rw [hb] at hc ht
          simp (disch := omega) [k0, k1, kx, ky, hx, hp, hc, hset]
          exact ⟨n + 1, _, ⟨by omega, next (by rw [ht]; simp), kx _, ky _⟩, by omega, by simp, rfl⟩
        · rw [hb] at hc ht
          have hf : twiceB d.order d.mirror t.h (lst t.indices) = true := by
            simp only [twiceB, List.any_eq_true, List.mem_range]
            exact ⟨n, c, by rw [ht]; simp [c0]⟩
          simp (disch := omega) [k0, k1, kx, ky, hx, hp, hc, hset, hf]
      · simp (disch := omega) [k0, k1, kx, ky, hx, hset]
        exact ⟨n + 1, _, ⟨by omega, next (by rw [ht]; simp [c0]), kx _, ky _⟩, by omega, by simp, rfl⟩
    · have hf : twiceB d.order d.mirror t.h (lst t.indices) = false := by
        simp only [twiceB, List.any_eq_false, List.mem_range]
        intro k hk; rw [ha k (by omega)]; simp
      simp (disch := omega) [hf]
  · simp
end Go.Proofs.YteaopgkajbfkeaaGreatDoor
namespace Go.Proofs.YteaopgkajbfkeaaGreatDoor
open Go

/-- The sizes of a tier. -/
structure GTier.L (t : GTier) : Prop where
  n : t.name.length < 2 ^ 62
  i : (lst t.indices).length < 2 ^ 62
  iv : ∀ i ∈ lst t.indices, I64 i
  f : GFix.L t.fix

def faultT (o : Int) (mir : Bool) (before : List GTier) (t : GTier) (l : List GFacet) : Int :=
  if isName t.name = false ∨ (fixF t.fix).2 = 1 then 1
  else if before.any (fun x => decide (x.name = t.name)) then 6
  else if angleB t.h t.v = false then 15
  else if wheelB t = false then 2
  else if twiceB o mir t.h (lst t.indices) || l.any (clash t (lst (posF o mir t.h (lst t.indices)))) then 6
  else if 94 < l.length + (lst (posF o mir t.h (lst t.indices))).length then 3
  else if (lst t.fix.refs).any (fun r => !l.any (isAt r)) then 5
  else 0

set_option maxHeartbeats 2000000 in
theorem q_fault (d : GDesign) {k : Nat} (hk : k < (lst d.tiers).length) (hd : (lst d.tiers).length < 2 ^ 62) {t : GTier} (ht : (lst d.tiers)[k] = t) (hL : GTier.L t) (l : Sl GFacet) (hl : (lst l).length < 2 ^ 61) :
    Cm.q f_tier_fault [.agg (GDesign.C d), .int .i64 k, slA 14 (fun t => AV.agg (GFacet.C t)) l] = some (.int .i64 (faultT d.order d.mirror ((lst d.tiers).take k) t (lst l))) := by
  refine q_by t_tier_fault (Gives_of rfl ?_)
  have k1 := q_Fix t.fix hL.f
  have k2 := q_IsName t.name hL.n
  have k3 := q_angle t.h t.v
  have k4 := q_wheel t
  have k5 := q_Positions d.order d.mirror t hL.i hL.iv
  have k6 := q_twice d t hL.i hL.iv
  have hpl := posF_len d.order d.mirror t.h (lst t.indices)
  unfold faultT
  generalize hown : posF d.order d.mirror t.h (lst t.indices) = own at *
  have m1 := m_ContainsFunc_Tier (l := cutS d.tiers 0 k) (g := f_tier_fault_1) (a := []) (b := [.ref 2 0]) (p := fun x => decide (x.name = t.name)) (h := [⟨GDesign.C d, 1, false, false⟩, ⟨[slA 14 (fun t => AV.agg (GFacet.C t)) l], 1, false, false⟩, ⟨GTier.C t, 1, false, false⟩]) (by simp; omega) rfl rfl (fun x _ => m_fault1 rfl x)
  have m2 := m_ContainsFunc_Facet (l := l) (g := f_tier_fault_2) (a := []) (b := [.ref 2 0, .ref 3 0]) (p := clash t (lst own)) (h := [⟨GDesign.C d, 1, false, false⟩, ⟨[slA 14 (fun t => AV.agg (GFacet.C t)) l], 1, false, false⟩, ⟨GTier.C t, 1, false, false⟩, ⟨[slA 1 i64A own], 1, false, false⟩]) (by omega) rfl rfl (fun x _ => m_fault2 (by omega) rfl rfl x)
  have m3 := m_ContainsFunc_Ref (l := t.fix.refs) (g := f_tier_fault_3) (a := []) (b := [.ref 1 0]) (p := fun r => !(lst l).any (isAt r)) (h := [⟨GDesign.C d, 1, false, false⟩, ⟨[slA 14 (fun t => AV.agg (GFacet.C t)) l], 1, false, false⟩, ⟨GTier.C t, 1, false, false⟩, ⟨[slA 1 i64A own], 1, false, false⟩]) hL.f.n rfl rfl (fun x _ => m_fault3 (by omega) rfl x)
  simp only [lst_cutS, List.drop_zero] at m1
  generalize ((lst d.tiers).take k).any (fun x => decide (x.name = t.name)) = B1 at *
  generalize (lst l).any (clash t (lst own)) = B2 at *
  generalize (lst t.fix.refs).any (fun r => !(lst l).any (isAt r)) = B3 at *
  generalize (fixF t.fix).2 = e at *
  generalize (fixF t.fix).1 = s at *
  generalize twiceB d.order d.mirror t.h (lst t.indices) = B4 at *
  generalize isName t.name = B5 at *
  generalize angleB t.h t.v = B6 at *
  generalize wheelB t = B7 at *
  cases B5
  · simp (disch := omega) [e_tier_fault, ht, k1, k2]
  · by_cases ce : e = 1
    · simp (disch := omega) [e_tier_fault, ht, k1, k2, ce]
    · simp (disch := omega) [e_tier_fault, ht, k1, k2, ce]
      rw [slslV_slA_hi (n := k) (by simp (disch := omega)) (by omega)]
      cases B1
      · cases B6
        · simp (disch := omega) [ce, m1, k3]
        · cases B7
          · simp (disch := omega) [ce, m1, k3, k4]
          · cases B4
            · cases B2
              · by_cases c : 94 < (lst l).length + (lst own).length
                · simp (disch := omega) [ce, m1, k3, k4, k5, k6, m2, c]
                · cases B3 <;> simp (disch := omega) [ce, m1, k3, k4, k5, k6, m2, c, m3]
              · simp (disch := omega) [ce, m1, k3, k4, k5, k6, m2]
            · simp (disch := omega) [ce, m1, k3, k4, k5, k6]
      · simp (disch := omega) [ce, m1]
end Go.Proofs.YteaopgkajbfkeaaGreatDoor
