/- What the program's exact numbers give: validity, common divisors, lowest terms. Strings of the library, and a store with one block that turns. What the program's integers give: reading a text, powers. What the program's integers give: powers. What the program's exact numbers give: lowest terms, sums. What the program's exact numbers give: products. What the reader of written numbers gives. The lexer's words: which texts are names. The calls of package slices that the program makes, and the bounds on a design. The bounds on a design: which designs are few. Which fixes can be written. -/
import Derived.Test.YteaopgkajbfkeaaGreatDoorWAG
import Derived.Test.YteaopgkajbfkeaaGreatDoorWAN
import Derived.Test.YteaopgkajbfkeaaGreatDoorWAR
import Derived.Test.YteaopgkajbfkeaaGreatDoorWAL
set_option linter.unusedSimpArgs false
set_option linter.unusedVariables false
namespace Go.Proofs.YteaopgkajbfkeaaGreatDoor
open Go

@[simp] theorem GArr.fold {a0 : Bool} {m0 : List UInt8} {a1 : Bool} {m1 : List UInt8} {a2 : Bool} {m2 : List UInt8} {a3 : Bool} {m3 : List UInt8} :
    AV.agg [.bool a0, .str m0, .bool a1, .str m1, .bool a2, .str m2, .bool a3, .str m3] = .agg (GArr.C ⟨⟨a0, m0⟩, ⟨a1, m1⟩, ⟨a2, m2⟩, ⟨a3, m3⟩⟩) := rfl
abbrev arrA (a : GArr) : AV := .agg (GArr.C a)
abbrev numA (a : GNum) : AV := .agg (GNum.C a)

/-- The integer that stands in memory. -/
def toZ (a : GInt) : Int := if a.neg then -(ofMag a.mag : Int) else ofMag a.mag
theorem toZ_ofZ (z : Int) : toZ (ofZ z) = z := by
  simp only [toZ, ofZ, ofMag_mag, decide_eq_true_eq]
  split <;> omega
theorem ofZ_toZ {a : GInt} (h : okI a = true) : ofZ (toZ a) = a := by
  obtain ⟨z, rfl⟩ := okI_iff.1 h
  rw [toZ_ofZ]
theorem Bd_toZ {a : GInt} {n : Nat} (h : a.mag.length ≤ n) : Bd n (toZ a) := by
  have := ofMag_lt a.mag
  have h2 : (256 : Nat) ^ a.mag.length ≤ 256 ^ n := Nat.pow_le_pow_right (by omega) h
  unfold Bd toZ
  split <;> omega

/-- An exact number by its integers. -/
structure ZNum where
  c0 : Int
  c1 : Int
  c2 : Int
  c3 : Int
  d : Int
  deriving DecidableEq, Inhabited
def ZNum.arr (z : ZNum) : GArr := ⟨ofZ z.c0, ofZ z.c1, ofZ z.c2, ofZ z.c3⟩
def ofN (z : ZNum) : GNum := ⟨z.arr, ofZ z.d⟩
def gcd5 (z : ZNum) : Nat := Nat.gcd (Nat.gcd (Nat.gcd (Nat.gcd z.d.natAbs z.c0.natAbs) z.c1.natAbs) z.c2.natAbs) z.c3.natAbs
structure ZNum.B (n : Nat) (z : ZNum) : Prop where
  h0 : Bd n z.c0
  h1 : Bd n z.c1
  h2 : Bd n z.c2
  h3 : Bd n z.c3
  hd : Bd n z.d
structure ZNum.Ok (z : ZNum) : Prop where
  pos : 0 < z.d
  gcd : gcd5 z = 1

theorem Bd_gcd {n : Nat} {a b : Int} (ha : Bd n a) (hb : Bd n b) : Bd n (Int.gcd a b : Int) := by
  unfold Bd at *
  simp only [Int.natAbs_natCast]
  by_cases h : a = 0
  · subst h; simpa using hb
  · have : Int.gcd a b ≤ a.natAbs := Nat.le_of_dvd (by omega) (Nat.gcd_dvd_left _ _)
    omega

theorem q_common {z : ZNum} {n : Nat} (hB : z.B n) (hn : n < 2 ^ 27) : Cm.q f_field_common [arrA z.arr, intA (ofZ z.d)] = some (intA (ofZ (gcd5 z))) := by
  refine q_by t_field_common (Gives_of rfl ?_)
  obtain ⟨c0, c1, c2, c3, d⟩ := z
  obtain ⟨h0, h1, h2, h3, hd⟩ := hB
  simp only [ZNum.arr, gcd5] at *
  have g0 := q_Gcd hd h0 hn
  have b0 := Bd_gcd hd h0
  have g1 := q_Gcd b0 h1 hn
  have b1 := Bd_gcd b0 h1
  have g2 := q_Gcd b1 h2 hn
  have b2 := Bd_gcd b1 h2
  have g3 := q_Gcd b2 h3 hn
  simp [e_field_common, l_field_common_0, V_round, g0, g1, g2, g3]
  simp [Int.gcd]

/-- Whether a number in memory is valid. -/
def validN (x : GNum) : Bool := okI x.c.a0 && okI x.c.a1 && okI x.c.a2 && okI x.c.a3 && okI x.d && decide (0 < toZ x.d) && decide (gcd5 ⟨toZ x.c.a0, toZ x.c.a1, toZ x.c.a2, toZ x.c.a3, toZ x.d⟩ = 1)
theorem validN_ofN (z : ZNum) : validN (ofN z) = true ↔ z.Ok := by
  obtain ⟨c0, c1, c2, c3, d⟩ := z
  simp only [validN, ofN, ZNum.arr, okI_ofZ, toZ_ofZ, Bool.true_and, Bool.and_eq_true, decide_eq_true_eq]
  exact ⟨fun h => ⟨h.1, h.2⟩, fun h => ⟨h.1, h.2⟩⟩
theorem validN_iff {x : GNum} : validN x = true ↔ ∃ z, x = ofN z ∧ z.Ok := by
  constructor
  · intro h
    have h' := h
    simp only [validN, Bool.and_eq_true] at h
    obtain ⟨⟨⟨⟨⟨⟨h0, h1⟩, h2⟩, h3⟩, h4⟩, _⟩, _⟩ := h
    have e : x = ofN ⟨toZ x.c.a0, toZ x.c.a1, toZ x.c.a2, toZ x.c.a3, toZ x.d⟩ := by
      simp only [ofN, ZNum.arr, ofZ_toZ h0, ofZ_toZ h1, ofZ_toZ h2, ofZ_toZ h3, ofZ_toZ h4]
    refine ⟨_, e, ?_⟩
    rw [e] at h'
    exact (validN_ofN _).1 h'
  · rintro ⟨z, rfl, h⟩; exact (validN_ofN z).2 h

/-- The sizes of the integers of a number in memory. -/
structure GNum.L (n : Nat) (x : GNum) : Prop where
  h0 : x.c.a0.mag.length ≤ n
  h1 : x.c.a1.mag.length ≤ n
  h2 : x.c.a2.mag.length ≤ n
  h3 : x.c.a3.mag.length ≤ n
  hd : x.d.mag.length ≤ n

theorem sign_pos {a : Int} : 0 < a.sign ↔ 0 < a := Int.sign_pos_iff

set_option maxHeartbeats 1000000 in
theorem q_field_Valid (x : GNum) {n : Nat} (hL : x.L n) (hn : n < 2 ^ 27) : Cm.q f_field_Valid [numA x] = some (.bool (validN x)) := by
  refine q_by t_field_Valid (Gives_of rfl ?_)
  have v0 := q_Valid x.c.a0
  have v1 := q_Valid x.c.a1
  have v2 := q_Valid x.c.a2
  have v3 := q_Valid x.c.a3
  have v4 := q_Valid x.d
  have o1 := q_Of (z := 1) (by omega) (by omega)
  cases k0 : okI x.c.a0 with
  | false =>
    rw [k0] at v0
    simp [e_field_Valid, l_field_Valid_0, V_round, v0, validN, k0]
  | true =>
  cases k1 : okI x.c.a1 with
  | false =>
    rw [k0] at v0; rw [k1] at v1
    simp [e_field_Valid, l_field_Valid_0, V_round, v0, v1, validN, k1]
  | true =>
  cases k2 : okI x.c.a2 with
  | false =>
    rw [k0] at v0; rw [k1] at v1; rw [k2] at v2
    simp [e_field_Valid, l_field_Valid_0, V_round, v0, v1, v2, validN, k2]
  | true =>
  cases k3 : okI x.c.a3 with
  | false =>
    rw [k0] at v0; rw [k1] at v1; rw [k2] at v2; rw [k3] at v3
    simp [e_field_Valid, l_field_Valid_0, V_round, v0, v1, v2, v3, validN, k3]
  | true =>
  cases k4 : okI x.d with
  | false =>
    rw [k0] at v0; rw [k1] at v1; rw [k2] at v2; rw [k3] at v3; rw [k4] at v4
    simp [e_field_Valid, l_field_Valid_0, V_round, v0, v1, v2, v3, v4, validN, k4]
  | true =>
    rw [k0] at v0; rw [k1] at v1; rw [k2] at v2; rw [k3] at v3; rw [k4] at v4
    have sg := q_Sign (toZ x.d)
    rw [ofZ_toZ k4] at sg
    have cm := q_common (z := ⟨toZ x.c.a0, toZ x.c.a1, toZ x.c.a2, toZ x.c.a3, toZ x.d⟩) ⟨Bd_toZ hL.h0, Bd_toZ hL.h1, Bd_toZ hL.h2, Bd_toZ hL.h3, Bd_toZ hL.hd⟩ hn
    simp only [ZNum.arr, ofZ_toZ k0, ofZ_toZ k1, ofZ_toZ k2, ofZ_toZ k3, ofZ_toZ k4] at cm
    have hv : validN x = (decide (0 < toZ x.d) && decide (gcd5 ⟨toZ x.c.a0, toZ x.c.a1, toZ x.c.a2, toZ x.c.a3, toZ x.d⟩ = 1)) := by simp [validN, k0, k1, k2, k3, k4]
    rw [hv]
    by_cases hp : 0 < toZ x.d
    · have hs : (0 : Int) < (toZ x.d).sign := sign_pos.2 hp
      simp [e_field_Valid, l_field_Valid_0, V_round, v0, v1, v2, v3, v4, sg, hp, hs, cm, o1]
      rw [ofZ_eq]; omega
    · have hs : ¬ (0 : Int) < (toZ x.d).sign := fun h => hp (sign_pos.1 h)
      simp [e_field_Valid, l_field_Valid_0, V_round, v0, v1, v2, v3, v4, sg, hp, hs]
end Go.Proofs.YteaopgkajbfkeaaGreatDoor
namespace Go.Proofs.YteaopgkajbfkeaaGreatDoor
open Go

/-! ### A store in which one block turns, and to which others come -/

def stJ (h : Store) (b : Nat) (B : Blk) (J : Store) : Store := h.set b B ++ J
theorem stJ_of {h : Store} {b : Nat} {B : Blk} (hb : getB h b = some B) : h = stJ h b B [] := by
  have h1 := (getB_some hb).1
  have hl : b < h.length := by
    rcases Nat.lt_or_ge b h.length with h' | h'
    · exact h'
    · rw [List.getElem?_eq_none h'] at h1; cases h1
  rw [List.getElem?_eq_getElem hl] at h1
  have h2 := Option.some.inj h1
  rw [stJ, List.append_nil, ← h2, List.set_getElem_self]
theorem lt_of_getB {h : Store} {b : Nat} {B : Blk} (hb : getB h b = some B) : b < h.length := by
  have h1 := (getB_some hb).1
  rcases Nat.lt_or_ge b h.length with h' | h'
  · exact h'
  · rw [List.getElem?_eq_none h'] at h1; cases h1
@[simp] theorem stJ_len {h : Store} {b : Nat} {B : Blk} {J : Store} : (stJ h b B J).length = h.length + J.length := by simp [stJ]
@[simp] theorem stJ_get {h : Store} {b : Nat} {B : Blk} {J : Store} (hb : b < h.length) : getB (stJ h b B J) b = if B.esz = 0 then none else some B := by
  rw [stJ, getB_app_lt (by simpa using hb), getB_set_eq hb]
@[simp] theorem stJ_getL {h : Store} {b : Nat} {B : Blk} {J : Store} : getB (stJ h b B J) h.length = getB J 0 := by
  have := getB_app_len (h := h.set b B) (l := J); simpa [stJ] using this
@[simp] theorem stJ_getK {h : Store} {b k : Nat} {B : Blk} {J : Store} : getB (stJ h b B J) (h.length + k) = getB J k := by
  have := getB_app_add (h := h.set b B) (l := J) (k := k); simpa [stJ] using this
theorem stJ_getO {h : Store} {b c : Nat} {B : Blk} {J : Store} (hc : c < h.length) (hn : b ≠ c) : getB (stJ h b B J) c = getB h c := by
  rw [stJ, getB_app_lt (by simpa using hc), getB_set_ne hn]
@[simp] theorem stJ_set {h : Store} {b : Nat} {B B' : Blk} {J : Store} (hb : b < h.length) : (stJ h b B J).set b B' = stJ h b B' J := by
  rw [stJ, set_app_lt (by simpa using hb), List.set_set, stJ]
@[simp] theorem stJ_setL {h : Store} {b : Nat} {B B' : Blk} {J : Store} : (stJ h b B J).set h.length B' = stJ h b B (J.set 0 B') := by
  simp [stJ]
@[simp] theorem stJ_setK {h : Store} {b k : Nat} {B B' : Blk} {J : Store} : (stJ h b B J).set (h.length + k) B' = stJ h b B (J.set k B') := by
  simp [stJ]
@[simp] theorem stJ_app {h : Store} {b : Nat} {B : Blk} {J K : Store} : stJ h b B J ++ K = stJ h b B (J ++ K) := by simp [stJ]
@[simp] theorem stJ_take {h : Store} {b : Nat} {B : Blk} {J : Store} : (stJ h b B J).take h.length = h.set b B := by
  rw [stJ, List.take_append_of_le_length (by simp)]; exact List.take_of_length_le (by simp)
theorem stJ_setO {h : Store} {b c : Nat} {B B' : Blk} {J : Store} (hc : c < h.length) (hn : b ≠ c) : (stJ h b B J).set c B' = stJ (h.set c B') b B J := by
  rw [stJ, set_app_lt (by simpa using hc), stJ, List.set_comm _ _ hn]
theorem set_self {h : Store} {b : Nat} {B : Blk} (hb : getB h b = some B) : h.set b B = h := by
  have := stJ_of hb
  rw [stJ, List.append_nil] at this
  exact this.symm

/-! ### Prefixes -/

theorem take_eq_prefix {s p : List UInt8} : (p.length ≤ s.length ∧ s.take p.length = p) ↔ p <+: s := by
  constructor
  · rintro ⟨_, h⟩; exact ⟨s.drop p.length, by rw [← List.take_append_drop p.length s, h]; simp⟩
  · rintro ⟨t, rfl⟩; simp

theorem q_HasPrefix (s p : List UInt8) : Cm.q f_i_stringslite_HasPrefix [.str s, .str p] = some (.bool (p.isPrefixOf s)) := by
  refine q_by t_i_stringslite_HasPrefix (Gives_of rfl ?_)
  have key : p.isPrefixOf s = true ↔ (p.length ≤ s.length ∧ s.take p.length = p) := by rw [List.isPrefixOf_iff_prefix, take_eq_prefix]
  by_cases h : p.length ≤ s.length
  · have e : p.isPrefixOf s = decide (s.take p.length = p) := by
      rw [Bool.eq_iff_iff, key]; simp [h]
    rw [e]
    simp (disch := omega) [e_i_stringslite_HasPrefix, h]
    rw [Bool.eq_iff_iff]; simp
  · have e : p.isPrefixOf s = false := by
      rw [Bool.eq_false_iff]; intro h2; exact h (key.1 h2).1
    rw [e]
    simp (disch := omega) [e_i_stringslite_HasPrefix, h]

theorem q_CutPrefix (s p : List UInt8) : Cm.q f_strings_CutPrefix [.str s, .str p] = some (if p.isPrefixOf s then .tup [.str (s.drop p.length), .bool true] else .tup [.str s, .bool false]) := by
  refine q_by t_strings_CutPrefix (Gives_of rfl ?_)
  have h1 := q_HasPrefix s p
  have h : Cm.q f_i_stringslite_CutPrefix [.str s, .str p] = some (if p.isPrefixOf s then .tup [.str (s.drop p.length), .bool true] else .tup [.str s, .bool false]) := by
    refine q_by t_i_stringslite_CutPrefix (Gives_of rfl ?_)
    cases hp : p.isPrefixOf s with
    | false => rw [hp] at h1; simp [e_i_stringslite_CutPrefix, h1]
    | true =>
      rw [hp] at h1
      have hl : p.length ≤ s.length := (List.isPrefixOf_iff_prefix.1 hp).length_le
      simp (disch := omega) [e_i_stringslite_CutPrefix, h1]
  cases hp : p.isPrefixOf s with
  | false => rw [hp] at h; simp at h; simp [e_strings_CutPrefix, h]
  | true => rw [hp] at h; simp at h; simp [e_strings_CutPrefix, h]

theorem q_TrimPrefix (s p : List UInt8) : Cm.q f_strings_TrimPrefix [.str s, .str p] = some (.str (if p.isPrefixOf s then s.drop p.length else s)) := by
  refine q_by t_strings_TrimPrefix (Gives_of rfl ?_)
  have h1 := q_HasPrefix s p
  have h : Cm.q f_i_stringslite_TrimPrefix [.str s, .str p] = some (.str (if p.isPrefixOf s then s.drop p.length else s)) := by
    refine q_by t_i_stringslite_TrimPrefix (Gives_of rfl ?_)
    cases hp : p.isPrefixOf s with
    | false => rw [hp] at h1; simp [e_i_stringslite_TrimPrefix, h1]
    | true =>
      rw [hp] at h1
      have hl : p.length ≤ s.length := (List.isPrefixOf_iff_prefix.1 hp).length_le
      simp (disch := omega) [e_i_stringslite_TrimPrefix, h1]
  simp [e_strings_TrimPrefix, h]
end Go.Proofs.YteaopgkajbfkeaaGreatDoor
namespace Go.Proofs.YteaopgkajbfkeaaGreatDoor
open Go

def isDig (c : UInt8) : Bool := decide (48 ≤ c.toNat) && decide (c.toNat ≤ 57)
def decVal (s : List UInt8) : Nat := s.foldl (fun n c => n * 10 + (c.toNat - 48)) 0
theorem decVal_snoc (s : List UInt8) (c : UInt8) : decVal (s ++ [c]) = decVal s * 10 + (c.toNat - 48) := by simp [decVal]
def AllDig (s : List UInt8) : Prop := ∀ c ∈ s, isDig c = true
theorem AllDig.take {s : List UInt8} (h : AllDig s) (n : Nat) : AllDig (s.take n) := fun c hc => h c (List.mem_of_mem_take hc)
theorem allDig_iff {s : List UInt8} : s.all isDig = true ↔ AllDig s := List.all_eq_true
theorem allDig_not {s : List UInt8} : s.all isDig = false ↔ ¬ AllDig s := by rw [← allDig_iff]; simp
theorem decVal_lt : ∀ (s : List UInt8), AllDig s → decVal s < 10 ^ s.length := by
  intro s
  induction hs : s.length generalizing s with
  | zero =>
    intro _
    have : s = [] := List.length_eq_zero_iff.1 hs
    subst this; simp [decVal]
  | succ n ih =>
    intro h
    obtain ⟨t, c, rfl⟩ : ∃ t c, s = t ++ [c] := by
      rcases List.eq_nil_or_concat s with rfl | ⟨t, c, rfl⟩
      · simp at hs
      · exact ⟨t, c, by simp⟩
    simp at hs
    have h2 := ih t hs (fun c hc => h c (by simp [hc]))
    have h3 := h c (by simp)
    simp [isDig] at h3
    rw [decVal_snoc, Nat.pow_succ]
    omega
/-- The integer for which a text stands, and the error. -/
def parseI (s : List UInt8) : Int × Int :=
  let neg := [45].isPrefixOf s
  let d := if neg then s.drop 1 else s
  if d = [] ∨ (d.head? = some 48 ∧ (1 < d.length ∨ neg = true)) then (0, 4)
  else if d.all isDig = false then (0, 4)
  else if 400 < d.length then (0, 3)
  else (if neg then -(decVal d : Int) else decVal d, 0)

theorem pow10_256 {n : Nat} : (10 : Nat) ^ n ≤ 256 ^ n := Nat.pow_le_pow_left (by omega) n

theorem parse_loop0 {d : List UInt8} (hl : d.length < 2 ^ 62) {mm : List (Nat × AV)} {dd : AV} {Q : Ex → St → Prop} {neg : Bool}
    (m2 : lk dd mm 2 = .ref 0 0) (m4 : lk dd mm 4 = .str d) (m5 : lk dd mm 5 = .bool neg) (m31 : lk dd mm 31 = .int .i64 d.length) (m32 : lk dd mm 32 = .int .i64 0)
    (hq : ∀ m' d', lk d' m' 2 = .ref 0 0 → lk d' m' 4 = .str d → lk d' m' 5 = .bool neg → AllDig d → Q .nrm (mkL 71 d' m', [⟨[.bool false, .str []], 1, false, false⟩]))
    (hr : ∀ m' d', lk d' m' 2 = .ref 0 0 → lk d' m' 3 = .int .i64 4 → ¬ AllDig d → Q .ret (mkL 71 d' m', [⟨GInt.C ⟨false, []⟩, 1, false, false⟩])) :
    V Cm 0 l_bigint_Parse_0 (mkL 71 dd mm, [⟨[.bool false, .str []], 1, false, false⟩]) Q ⟨⟩ ⟨⟩ := by
  unfold l_bigint_Parse_0
  simp
  refine V.loop (fun i : Nat => i ≤ d.length ∧ AllDig (d.take i))
    (fun i => (mkL 71 .any [(2, .ref 0 0), (4, .str d), (5, .bool neg), (31, .int .i64 d.length), (32, .int .i64 i)], [⟨[.bool false, .str []], 1, false, false⟩])) (fun i => d.length - i) ?_ 0 ⟨Nat.zero_le _, by simp [AllDig]⟩ ?_
  · rintro i ⟨hi, ha⟩
    by_cases h : i < d.length
    · have hx : ∀ h, d[i]'h = d[i] := fun _ => rfl
      obtain ⟨x, hx⟩ : ∃ x, d[i] = x := ⟨_, rfl⟩
      have hsplit : d = d.take i ++ x :: d.drop (i + 1) := by rw [← hx, List.getElem_cons_drop, List.take_append_drop]
      by_cases hd : isDig x = true
      · have h1 := hd
        simp [isDig] at h1
        simp (disch := omega) [hx]
        refine ⟨i + 1, ⟨by omega, ?_⟩, by omega, by simp⟩
        rw [List.take_succ_eq_append_getElem h, hx]
        intro c hc
        rcases List.mem_append.1 hc with hc | hc
        · exact ha c hc
        · rw [List.mem_singleton.1 hc]; exact hd
      · have hall : ¬ AllDig d := fun hA => hd (hA x (by rw [hsplit]; simp))
        have hr' := fun m' d' a b => hr m' d' a b hall
        by_cases h2 : x.toNat < 48
        · simp (disch := omega) [hx]
          exact hr' _ _ (by simp) (by simp)
        · have h3 : ¬ x.toNat ≤ 57 := by
            intro h4; apply hd; simp [isDig]; omega
          simp (disch := omega) [hx]
          exact hr' _ _ (by simp) (by simp)
    · have hid : i = d.length := by omega
      subst hid
      simp (disch := omega)
      rw [List.take_length] at ha
      exact hq _ _ (by simp) (by simp) (by simp) ha
  · simp [m2, m4, m5, m31, m32]

theorem parse_loop1 {d : List UInt8} (hl : d.length ≤ 400) (ha : AllDig d) {mm : List (Nat × AV)} {dd : AV} {Q : Ex → St → Prop} {neg : Bool}
    (m2 : lk dd mm 2 = .ref 0 0) (m4 : lk dd mm 4 = .str d) (m5 : lk dd mm 5 = .bool neg) (m7 : lk dd mm 7 = .nils) (m52 : lk dd mm 52 = .int .i64 d.length) (m53 : lk dd mm 53 = .int .i64 0)
    (hq : ∀ m' d' o, lk d' m' 2 = .ref 0 0 → lk d' m' 5 = .bool neg → lk d' m' 7 = natA o → lst o = dig (decVal d) → Q .nrm (mkL 71 d' m', [⟨[.bool false, .str []], 1, false, false⟩])) :
    V Cm 0 l_bigint_Parse_1 (mkL 71 dd mm, [⟨[.bool false, .str []], 1, false, false⟩]) Q ⟨⟩ ⟨⟩ := by
  unfold l_bigint_Parse_1
  simp
  refine V.loop (fun s : Nat × Sl Nat => s.1 ≤ d.length ∧ lst s.2 = dig (decVal (d.take s.1)))
    (fun s => (mkL 71 .any [(2, .ref 0 0), (4, .str d), (5, .bool neg), (7, natA s.2), (52, .int .i64 d.length), (53, .int .i64 s.1)], [⟨[.bool false, .str []], 1, false, false⟩])) (fun s => d.length - s.1) ?_ (0, none) ⟨Nat.zero_le _, by simp [decVal]⟩ ?_
  · rintro ⟨i, o⟩ ⟨hi, ho⟩
    dsimp only at hi ho
    by_cases h : i < d.length
    · obtain ⟨x, hx⟩ : ∃ x, d[i] = x := ⟨_, rfl⟩
      have htk : d.take (i + 1) = d.take i ++ [x] := by rw [List.take_succ_eq_append_getElem h, hx]
      have hd : isDig x = true := by
        exact ha x (by rw [← hx]; exact List.getElem_mem h)
      simp [isDig] at hd
      obtain ⟨y, hy⟩ : ∃ y, x.toNat - 48 = y := ⟨_, rfl⟩
      have hyI : (x.toNat : Int) - 48 = y := by omega
      have hv : decVal (d.take i) < 10 ^ i := by
        have := decVal_lt (d.take i) (ha.take i)
        rwa [List.length_take, Nat.min_eq_left (by omega)] at this
      have hlen : (lst o).length ≤ 400 := by
        rw [ho]
        exact Nat.le_trans (dl (Nat.lt_of_lt_of_le hv pow10_256)) (by omega)
      have hm : Cm.q f_bigint_natural_mul [natA o, .sl 1 [.int .u32 10]] = some (natA (some (dig (decVal (d.take i) * 10)))) := by
        have := q_mul o (some [10]) (by rw [ho]; exact dig_dg _) (.cons (by omega) .nil) (by omega) (by simp)
        rw [ho, val_dig] at this
        exact this
      have ht : Cm.q f_bigint_natural_trim [.sl 1 [.int .u32 (y : Int)]] = some (natA (some (dig y))) := by
        have := q_trim_some (l := [y]) (by simp) (.cons (by omega) .nil)
        have e : val [y] = y := by simp
        rw [e] at this
        exact this
      have hb1 : decVal (d.take i) * 10 < 256 ^ (i + 1) := by
        have h2 := @pow10_256 (i + 1)
        have h3 : (10 : Nat) ^ (i + 1) = 10 ^ i * 10 := Nat.pow_succ _ _
        generalize (256 : Nat) ^ (i + 1) = Z at *
        omega
      have hadd := q_add (some (dig (decVal (d.take i) * 10))) (some (dig y)) (dig_dg _) (dig_dg _) (by have := dl hb1; simp only [lst_some]; omega) (by
        have : (dig y).length ≤ 1 := dl (n := 1) (by omega)
        simp only [lst_some]; omega)
      simp only [lst_some, val_dig] at hadd
      have hstep : decVal (d.take (i + 1)) = decVal (d.take i) * 10 + y := by rw [htk, decVal_snoc, hy]
      simp (disch := omega) [hx, hyI, hm, ht, hadd]
      exact ⟨i + 1, some (dig (decVal (d.take (i + 1)))), ⟨by omega, rfl⟩, by omega, by rw [hstep]; simp⟩
    · have hid : i = d.length := by omega
      subst hid
      simp (disch := omega)
      rw [List.take_length] at ho
      exact hq _ _ o (by simp) (by simp) (by simp) ho
  · simp [m2, m4, m5, m7, m52, m53]
    rfl

theorem q_bigint_Parse (s : List UInt8) (hs : s.length < 2 ^ 62) : Cm.q f_bigint_Parse [.str s] = some (.tup [intA (ofZ (parseI s).1), .int .i64 (parseI s).2]) := by
  refine q_by t_bigint_Parse (Gives_of rfl ?_)
  have hc := q_CutPrefix s [45]
  obtain ⟨neg, hneg⟩ : ∃ b, [45].isPrefixOf s = b := ⟨_, rfl⟩
  obtain ⟨d, hd⟩ : ∃ d, (if neg then s.drop 1 else s) = d := ⟨_, rfl⟩
  have hc2 : Cm.q f_strings_CutPrefix [.str s, .str [45]] = some (.tup [.str d, .bool neg]) := by
    rw [hc, hneg]
    cases neg <;> simp at hd <;> simp [hd]
  have hdl : d.length < 2 ^ 62 := by rw [← hd]; split <;> simp <;> omega
  have hp : parseI s = if d = [] ∨ (d.head? = some 48 ∧ (1 < d.length ∨ neg = true)) then (0, 4) else if d.all isDig = false then (0, 4) else if 400 < d.length then (0, 3) else (if neg then -(decVal d : Int) else decVal d, 0) := by
    simp only [parseI, hneg, hd]
  rw [hp]
  cases d with
  | nil => simp [e_bigint_Parse, hc2, ofZ_zero]
  | cons x d =>
    by_cases h1 : x = 48 ∧ (1 < (x :: d).length ∨ neg = true)
    · rw [if_pos (.inr (by simpa using h1))]
      obtain ⟨rfl, h2⟩ := h1
      by_cases h3 : d = []
      · subst h3
        have : neg = true := by simpa using h2
        subst this
        simp (disch := omega) [e_bigint_Parse, hc2, ofZ_zero]
      · have : 0 < d.length := by
          cases d with
          | nil => exact absurd rfl h3
          | cons => simp
        simp (disch := omega) [e_bigint_Parse, hc2, ofZ_zero]
    · rw [if_neg (by simpa using h1)]
      have main : ∀ {m' : List (Nat × AV)} {d' : AV}, lk d' m' 2 = .ref 0 0 → lk d' m' 4 = .str (x :: d) → lk d' m' 5 = .bool neg → lk d' m' 31 = .int .i64 (x :: d).length → lk d' m' 32 = .int .i64 0 →
          V Cm 0 l_bigint_Parse_0 (mkL 71 d' m', [⟨[.bool false, .str []], 1, false, false⟩]) (seqQ (fun st => V Cm 0 (.seq (.seq (.rows [rw' 47 (.mv (.s 4)), rw' 48 (.len true (.s 47)), rw' 49 (.bin .gtr (.s 48) (ci 400))]) (.cond (.s 49) (.seq (.rows [rw' 50 (.build [.tf false, .s []] []), rn (.store 2 (.s 2) (.s 50)), rw' 3 (.mv (ci 3))]) .ret) .skip)) (.seq (.rows [rw' 7 (.mv (.k .nils))]) (.seq (.seq (.rows [rw' 51 (.mv (.s 4)), rw' 52 (.len true (.s 51)), rw' 53 (.mv (ci 0))]) l_bigint_Parse_1) (.seq (.rows [rw' 68 (.mv (.s 7)), rw' 69 (.mv (.s 5)), rw' 70 (.callq f_bigint_natural_with [(.s 68), (.s 69)]), rn (.store 2 (.s 2) (.s 70)), rw' 3 (.mv (ci 0))]) .ret)))) st (fun ex st => (∀ i, ex ≠ .exit i) ∧ Wn ([PRes.cell 2 true 2, PRes.slot 3].mapM (PRes.get st)) (fun vs => freeze st.2 (one? vs) = some (.tup [intA (ofZ (if (x :: d).all isDig = false then (0, 4) else if 400 < (x :: d).length then (0, 3) else (if neg = true then -(decVal (x :: d) : Int) else decVal (x :: d), 0) : Int × Int).1), .int .i64 (if (x :: d).all isDig = false then (0, 4) else if 400 < (x :: d).length then (0, 3) else (if neg = true then -(decVal (x :: d) : Int) else decVal (x :: d), 0) : Int × Int).2])) ⟨⟩) ⟨⟩ ⟨⟩) (fun ex st => (∀ i, ex ≠ .exit i) ∧ Wn ([PRes.cell 2 true 2, PRes.slot 3].mapM (PRes.get st)) (fun vs => freeze st.2 (one? vs) = some (.tup [intA (ofZ (if (x :: d).all isDig = false then (0, 4) else if 400 < (x :: d).length then (0, 3) else (if neg = true then -(decVal (x :: d) : Int) else decVal (x :: d), 0) : Int × Int).1), .int .i64 (if (x :: d).all isDig = false then (0, 4) else if 400 < (x :: d).length then (0, 3) else (if neg = true then -(decVal (x :: d) : Int) else decVal (x :: d), 0) : Int × Int).2])) ⟨⟩)) ⟨⟩ ⟨⟩ := by
        intro m' d' f2 f4 f5 f31 f32
        generalize x :: d = w at *
        refine parse_loop0 hdl f2 f4 f5 f31 f32 ?_ ?_
        · intro m1 d1 g2 g4 g5 hA
          rw [if_neg (by rw [allDig_not]; exact fun h => h hA)]
          by_cases h400 : 400 < w.length
          · rw [if_pos h400]
            simp (disch := omega) [g2, g4, g5, ofZ_zero]
          · rw [if_neg h400]
            simp (disch := omega) [g2, g4, g5]
            refine parse_loop1 (neg := neg) (by omega) hA ?_ ?_ ?_ ?_ ?_ ?_ ?_ <;> (try simp [g2, g4, g5])
            intro m2 d2 o e2 e5 e7 ho
            have hlt : decVal w < 256 ^ w.length := Nat.lt_of_lt_of_le (decVal_lt w hA) pow10_256
            have hw := q_with ho hlt (by omega) neg
            simp (disch := omega) [e2, e5, e7, hw]
        · intro m1 d1 g2 g3 hA
          rw [if_pos (allDig_not.2 hA)]
          simp [g2, g3, ofZ_zero]
      by_cases hx : x = 48
      · subst hx
        have hd0 : d = [] ∧ neg = false := by
          have h2 : ¬ (1 < (48 :: d).length ∨ neg = true) := fun h => h1 ⟨rfl, h⟩
          constructor
          · cases d with
            | nil => rfl
            | cons => exact absurd (.inl (by simp)) h2
          · cases neg with
            | false => rfl
            | true => exact absurd (.inr rfl) h2
        obtain ⟨rfl, rfl⟩ := hd0
        simp (disch := omega) [e_bigint_Parse, hc2]
        exact main (by simp) (by simp) (by simp) (by simp) (by simp)
      · have hx2 : ¬ (x.toNat : Int) = 48 := by
          intro h; apply hx; exact UInt8.toNat_inj.1 (by simp; omega)
        simp (disch := omega) [e_bigint_Parse, hc2, hx2]
        exact main (by simp) (by simp) (by simp) (by simp) (by simp)
end Go.Proofs.YteaopgkajbfkeaaGreatDoor
namespace Go.Proofs.YteaopgkajbfkeaaGreatDoor
open Go

theorem Bd_pow {a : Int} {n : Nat} (ha : Bd n a) (m : Nat) : Bd (n * m + 1) (a ^ m) := by
  have h : (a ^ m).natAbs ≤ 256 ^ (n * m) := by
    rw [Int.natAbs_pow, Nat.pow_mul]
    exact Nat.pow_le_pow_left (Nat.le_of_lt ha) m
  unfold Bd
  rw [Nat.pow_succ]
  have := Nat.pow_pos (n := n * m) (show 0 < 256 by omega)
  omega

/-- The state of a power: the exponent that is left, the base, and what is multiplied. -/
structure PowSt where
  q : Nat
  A : Int
  O : Int

theorem and_one {k : Nat} (hk : k < 128) : andI .i64 (k : Int) 1 = ((k % 2 : Nat) : Int) := by
  have : ∀ k : Nat, k < 128 → andI .i64 (k : Int) 1 = ((k % 2 : Nat) : Int) := by decide
  exact this k hk

theorem q_Pow {a : Int} {n k : Nat} (ha : Bd n a) (hn : n ≤ 4000) (hk : k ≤ 100) : Cm.q f_bigint_Pow [intA (ofZ a), .int .i64 k] = some (.tup [intA (ofZ (a ^ k)), .int .i64 0]) := by
  refine q_by t_bigint_Pow (Gives_of rfl ?_)
  have hv := q_Valid (ofZ a)
  rw [okI_ofZ] at hv
  have hl : (ofZ a).mag.length ≤ n := mag_length_le.2 ha
  have o1 := q_Of (z := 1) (by omega) (by omega)
  obtain ⟨R, hR⟩ : ∃ R, a ^ k = R := ⟨_, rfl⟩
  rw [hR]
  simp (disch := omega) [e_bigint_Pow, hv, o1, l_bigint_Pow_0]
  refine V.loop (fun s : PowSt => ∃ t, s.q = k / 2 ^ t ∧ (s.q ≠ 0 → s.A = a ^ (2 ^ t)) ∧ s.O = a ^ (k % 2 ^ t))
    (fun s => (mkL 43 .any [(1, .int .i64 s.q), (2, .ref 0 0), (4, .ref 1 0), (6, .ref 2 0)], [⟨GInt.C (ofZ s.A), 1, false, false⟩, ⟨[.bool false, .str []], 1, false, false⟩, ⟨GInt.C (ofZ s.O), 1, false, false⟩])) (fun s => s.q) ?_ ⟨k, a, 1⟩ ⟨0, by simp, fun _ => (by show a = a ^ 1; rw [Int.pow_succ, Int.pow_zero, Int.one_mul]), by simp [Nat.mod_one]⟩ ?_
  · rintro ⟨q, A, O⟩ ⟨t, hq, hA, hO⟩
    dsimp only at hq hA hO
    by_cases hq0 : q = 0
    · have e : k % 2 ^ t = k := by
        apply Nat.mod_eq_of_lt
        rcases Nat.lt_or_ge k (2 ^ t) with h | h
        · exact h
        · have := (Nat.le_div_iff_mul_le (Nat.pow_pos (n := t) (show 0 < 2 by omega))).2 (show 1 * 2 ^ t ≤ k by omega)
          omega
      rw [e, hR] at hO
      subst hq0 hO
      simp (disch := omega)
    · have hA := hA hq0
      have hle : 2 ^ t ≤ k := by
        rcases Nat.lt_or_ge k (2 ^ t) with h | h
        · rw [Nat.div_eq_of_lt h] at hq; omega
        · exact h
      have ht6 : t ≤ 6 := by
        rcases Nat.lt_or_ge t 7 with h | h
        · omega
        · have : (2 : Nat) ^ 7 ≤ 2 ^ t := Nat.pow_le_pow_right (by omega) h
          omega
      have hp : (2 : Nat) ^ t ≤ 64 := Nat.pow_le_pow_right (n := 2) (by omega) ht6
      have hqk : q ≤ 100 := by rw [hq]; exact Nat.le_trans (Nat.div_le_self _ _) hk
      have hand := and_one (k := q) (by omega)
      have hdiv : q / 2 = k / 2 ^ (t + 1) := by rw [Nat.pow_succ, ← Nat.div_div_eq_div_mul, hq]
      have hmod : k % 2 ^ (t + 1) = k % 2 ^ t + 2 ^ t * (q % 2) := by
        rw [Nat.pow_succ, Nat.mod_mul, hq]
      have B1 : Bd (4000 * 128 + 1) A := by
        rw [hA]
        refine (Bd_pow ha _).mono ?_
        have : n * 2 ^ t ≤ 4000 * 128 := Nat.mul_le_mul hn (by omega)
        omega
      have B2 : Bd (4000 * 128 + 1) O := by
        rw [hO]
        refine (Bd_pow ha _).mono ?_
        have h1 : k % 2 ^ t < 2 ^ t := Nat.mod_lt _ (Nat.pow_pos (by omega))
        have : n * (k % 2 ^ t) ≤ 4000 * 128 := Nat.mul_le_mul hn (by omega)
        omega
      have hM1 := q_Mul B2 B1 (by omega)
      have hM2 := q_Mul B1 B1 (by omega)
      have e2 : A * A = a ^ (2 ^ (t + 1)) := by rw [hA, ← Int.pow_add, Nat.pow_succ]; congr 1; omega
      have hmeas : q / 2 < q := by omega
      have hO1 : q % 2 = 1 → O * A = a ^ (k % 2 ^ (t + 1)) := by
        intro ho
        rw [hmod, ho, Nat.mul_one, Int.pow_add, hO, hA]
      have hO0 : q % 2 = 0 → O = a ^ (k % 2 ^ (t + 1)) := by
        intro ho
        rw [hmod, ho, Nat.mul_zero, Nat.add_zero, hO]
      have hq1' : ¬ 1 < q → q / 2 = 0 := by omega
      by_cases ho : q % 2 = 1
      · rw [ho] at hand
        simp at hand
        by_cases hq1 : 1 < q
        · simp (disch := omega) [hand, hM1, hM2]
          exact ⟨⟨q / 2, A * A, O * A⟩, ⟨t + 1, hdiv, fun _ => e2, hO1 ho⟩, hmeas, by simp, rfl, rfl⟩
        · simp (disch := omega) [hand, hM1]
          exact ⟨⟨q / 2, A, O * A⟩, ⟨t + 1, hdiv, fun h => absurd (hq1' hq1) h, hO1 ho⟩, hmeas, by simp, rfl, rfl⟩
      · have ho' : q % 2 = 0 := by omega
        rw [ho'] at hand
        simp at hand
        have hq1 : 1 < q := by omega
        simp (disch := omega) [hand, hM2]
        exact ⟨⟨q / 2, A * A, O⟩, ⟨t + 1, hdiv, fun _ => e2, hO0 ho'⟩, hmeas, by simp, rfl, rfl⟩
  · simp
end Go.Proofs.YteaopgkajbfkeaaGreatDoor
namespace Go.Proofs.YteaopgkajbfkeaaGreatDoor
open Go

@[simp] theorem zeroNum : z_api_Num.map KV.av = GNum.C ⟨⟨⟨false, []⟩, ⟨false, []⟩, ⟨false, []⟩, ⟨false, []⟩⟩, ⟨false, []⟩⟩ := rfl
@[simp] theorem zeroArr : z_4_api_Int.map KV.av = GArr.C ⟨⟨false, []⟩, ⟨false, []⟩, ⟨false, []⟩, ⟨false, []⟩⟩ := rfl
/-- The number that is none. -/
def zeroN : ZNum := ⟨0, 0, 0, 0, 0⟩
theorem ofN_zeroN : ofN zeroN = ⟨⟨⟨false, []⟩, ⟨false, []⟩, ⟨false, []⟩, ⟨false, []⟩⟩, ⟨false, []⟩⟩ := by simp [ofN, zeroN, ZNum.arr, ofZ_zero]

theorem Bd_of_len {n : Nat} {z : Int} (h : Bd n z) : (ofZ z).mag.length ≤ n := mag_length_le.2 h
theorem L_ofN {n : Nat} {z : ZNum} (h : z.B n) : (ofN z).L n := ⟨Bd_of_len h.h0, Bd_of_len h.h1, Bd_of_len h.h2, Bd_of_len h.h3, Bd_of_len h.hd⟩
theorem q_Valid_ok {z : ZNum} {n : Nat} (hB : z.B n) (hz : z.Ok) (hn : n < 2 ^ 27) : Cm.q f_field_Valid [numA (ofN z)] = some (.bool true) := by
  rw [q_field_Valid _ (L_ofN hB) hn, (validN_ofN z).2 hz]

theorem q_over {a b : Int} {n : Nat} (ha : Bd n a) (hb : Bd n b) (hn : n < 2 ^ 27) (hb0 : b ≠ 0) : Cm.q f_field_over [intA (ofZ a), intA (ofZ b)] = some (intA (ofZ (a.fdiv b))) := by
  refine q_by t_field_over (Gives_of rfl ?_)
  have h := q_DivMod ha hb hn hb0
  simp [e_field_over, h]

/-- The divisor by which a number is brought to lowest terms. -/
def lowD (z : ZNum) : Int := if z.d < 0 then -(gcd5 z : Int) else gcd5 z
def low (z : ZNum) : ZNum := ⟨z.c0.fdiv (lowD z), z.c1.fdiv (lowD z), z.c2.fdiv (lowD z), z.c3.fdiv (lowD z), z.d.fdiv (lowD z)⟩

theorem gcd5_ne {z : ZNum} (h : z.d ≠ 0) : gcd5 z ≠ 0 := by
  intro e
  simp only [gcd5, Nat.gcd_eq_zero_iff] at e
  omega
theorem lowD_ne {z : ZNum} (h : z.d ≠ 0) : lowD z ≠ 0 := by
  have := gcd5_ne h
  unfold lowD; split <;> omega
theorem Bd_gcd5 {n : Nat} {z : ZNum} (hB : z.B n) : Bd n (gcd5 z : Int) := by
  have := Bd_gcd (Bd_gcd (Bd_gcd (Bd_gcd hB.hd hB.h0) hB.h1) hB.h2) hB.h3
  simpa [gcd5, Int.gcd] using this
theorem Bd_lowD {n : Nat} {z : ZNum} (hB : z.B n) : Bd n (lowD z) := by
  have := Bd_gcd5 hB
  unfold lowD; split
  · exact this.neg
  · exact this

theorem q_lowest {z : ZNum} {n : Nat} (hB : z.B n) (hd : z.d ≠ 0) (hn : n < 2 ^ 27) : Cm.q f_field_lowest [arrA z.arr, intA (ofZ z.d)] = some (numA (ofN (low z))) := by
  refine q_by t_field_lowest (Gives_of rfl ?_)
  have hc := q_common hB hn
  have hs := q_Sign z.d
  have hne := q_Neg (gcd5 z)
  have o1 := q_Of (z := 1) (by omega) (by omega)
  have hD := lowD_ne hd
  have hBD := Bd_lowD hB
  have w0 := q_over hB.h0 hBD hn hD
  have w1 := q_over hB.h1 hBD hn hD
  have w2 := q_over hB.h2 hBD hn hD
  have w3 := q_over hB.h3 hBD hn hD
  have w4 := q_over hB.hd hBD hn hD
  have a0 : z.arr.a0 = ofZ z.c0 := rfl
  have a1 : z.arr.a1 = ofZ z.c1 := rfl
  have a2 : z.arr.a2 = ofZ z.c2 := rfl
  have a3 : z.arr.a3 = ofZ z.c3 := rfl
  by_cases h0 : z.d < 0
  · have hsg : z.d.sign < 0 := by rw [Int.sign_eq_neg_one_of_neg h0]; omega
    have hl : lowD z = -(gcd5 z : Int) := if_pos h0
    rw [hl] at w0 w1 w2 w3 w4
    have hne1 : ¬ ofZ (-(gcd5 z : Int)) = ofZ 1 := by rw [ofZ_eq]; omega
    simp (disch := omega) [e_field_lowest, l_field_lowest_0, V_round, hc, hs, hsg, hne, o1, hne1, a0, a1, a2, a3, w0, w1, w2, w3, w4]
    simp [low, ofN, ZNum.arr, hl]
  · have hsg : ¬ z.d.sign < 0 := by rw [Int.sign_eq_one_of_pos (by omega)]; omega
    have hl : lowD z = (gcd5 z : Int) := if_neg h0
    rw [hl] at w0 w1 w2 w3 w4
    by_cases h1 : gcd5 z = 1
    · have he : ofZ (gcd5 z : Int) = ofZ 1 := by rw [h1]; rfl
      simp (disch := omega) [e_field_lowest, l_field_lowest_0, V_round, hc, hs, hsg, hne, o1, he]
      simp [low, ofN, ZNum.arr, hl, h1, Int.fdiv_one]
    · have he : ¬ ofZ (gcd5 z : Int) = ofZ 1 := by rw [ofZ_eq]; omega
      simp (disch := omega) [e_field_lowest, l_field_lowest_0, V_round, hc, hs, hsg, o1, he, a0, a1, a2, a3, w0, w1, w2, w3, w4]
      simp (disch := omega) [low, ofN, ZNum.arr, hl]

def intN (k : Int) : ZNum := ⟨k, 0, 0, 0, 1⟩
theorem q_field_Of {k : Int} (h1 : -9223372036854775808 ≤ k) (h2 : k < 9223372036854775808) : Cm.q f_field_Of [.int .i64 k] = some (numA (ofN (intN k))) := by
  refine q_by t_field_Of (Gives_of rfl ?_)
  have o := q_Of h1 h2
  have o1 := q_Of (z := 1) (by omega) (by omega)
  simp [e_field_Of, o, o1]
  simp [ofN, intN, ZNum.arr, ofZ_zero]

/-- A root. -/
def rootN (k : Int) : ZNum := ⟨0, if k = 2 then 1 else 0, if k = 3 then 1 else 0, if k = 6 then 1 else 0, 1⟩
theorem q_Root {k : Int} (hk : k = 2 ∨ k = 3 ∨ k = 6) : Cm.q f_field_Root [.int .i64 k] = some (numA (ofN (rootN k))) := by
  refine q_by t_field_Root (Gives_of rfl ?_)
  have o := q_field_Of (k := 0) (by omega) (by omega)
  have o1 := q_Of (z := 1) (by omega) (by omega)
  rcases hk with rfl | rfl | rfl
  · simp [e_field_Root, o, o1]
    simp [ofN, intN, rootN, ZNum.arr]
  · simp [e_field_Root, o, o1]
    simp [ofN, intN, rootN, ZNum.arr]
  · simp [e_field_Root, o, o1]
    simp [ofN, intN, rootN, ZNum.arr]

theorem q_Make {z : ZNum} {n : Nat} (hB : z.B n) (hn : n < 2 ^ 27) : Cm.q f_field_Make [arrA z.arr, intA (ofZ z.d)] = some (if z.d = 0 then .tup [numA (ofN zeroN), .int .i64 10] else .tup [numA (ofN (low z)), .int .i64 0]) := by
  refine q_by t_field_Make (Gives_of rfl ?_)
  have v0 := q_Valid (ofZ z.c0)
  have v1 := q_Valid (ofZ z.c1)
  have v2 := q_Valid (ofZ z.c2)
  have v3 := q_Valid (ofZ z.c3)
  have v4 := q_Valid (ofZ z.d)
  rw [okI_ofZ] at v0 v1 v2 v3 v4
  have a0 : z.arr.a0 = ofZ z.c0 := rfl
  have a1 : z.arr.a1 = ofZ z.c1 := rfl
  have a2 : z.arr.a2 = ofZ z.c2 := rfl
  have a3 : z.arr.a3 = ofZ z.c3 := rfl
  have hs := q_Sign z.d
  by_cases h0 : z.d = 0
  · have hs0 : z.d.sign = 0 := by rw [h0]; rfl
    rw [if_pos h0, ofN_zeroN]
    simp [e_field_Make, l_field_Make_0, V_round, a0, a1, a2, a3, v0, v1, v2, v3, v4, hs, hs0]
  · have hs0 : ¬ z.d.sign = 0 := by rw [Int.sign_eq_zero_iff_zero]; exact h0
    have hl := q_lowest hB h0 hn
    rw [if_neg h0]
    simp [e_field_Make, l_field_Make_0, V_round, a0, a1, a2, a3, v0, v1, v2, v3, v4, hs, hs0, hl]

/-- A sum. -/
def addP (x y : ZNum) : ZNum := ⟨x.c0 * y.d + y.c0 * x.d, x.c1 * y.d + y.c1 * x.d, x.c2 * y.d + y.c2 * x.d, x.c3 * y.d + y.c3 * x.d, x.d * y.d⟩
def addZ (x y : ZNum) : ZNum := low (addP x y)
theorem B_addP {x y : ZNum} {n m : Nat} (hx : x.B n) (hy : y.B m) : (addP x y).B (n + m + 1) := by
  have f : ∀ {a b c d : Int}, Bd n a → Bd m b → Bd m c → Bd n d → Bd (n + m + 1) (a * b + c * d) := by
    intro a b c d ha hb hc hd
    have h1 := ha.mul hb
    have h2 := hc.mul hd
    rw [Nat.add_comm m n] at h2
    have := h1.add h2
    rwa [Nat.max_self] at this
  exact ⟨f hx.h0 hy.hd hy.h0 hx.hd, f hx.h1 hy.hd hy.h1 hx.hd, f hx.h2 hy.hd hy.h2 hx.hd, f hx.h3 hy.hd hy.h3 hx.hd, (hx.hd.mul hy.hd).mono (by omega)⟩

theorem Bd_fdiv {n : Nat} {a b : Int} (ha : Bd n a) (hb : b ∣ a) : Bd n (a.fdiv b) := by
  obtain ⟨c, rfl⟩ := hb
  by_cases h0 : b = 0
  · subst h0; simp; exact Bd.zero
  · rw [Int.mul_fdiv_cancel_left _ h0]
    unfold Bd at *
    rw [Int.natAbs_mul] at ha
    have : 1 * c.natAbs ≤ b.natAbs * c.natAbs := Nat.mul_le_mul_right _ (by omega)
    omega
theorem gcd5_dvd (z : ZNum) : gcd5 z ∣ z.c0.natAbs ∧ gcd5 z ∣ z.c1.natAbs ∧ gcd5 z ∣ z.c2.natAbs ∧ gcd5 z ∣ z.c3.natAbs ∧ gcd5 z ∣ z.d.natAbs := by
  have h3 := Nat.gcd_dvd_left (Nat.gcd (Nat.gcd (Nat.gcd z.d.natAbs z.c0.natAbs) z.c1.natAbs) z.c2.natAbs) z.c3.natAbs
  have h2 := Nat.dvd_trans h3 (Nat.gcd_dvd_left _ _)
  have h1 := Nat.dvd_trans h2 (Nat.gcd_dvd_left _ _)
  exact ⟨Nat.dvd_trans h1 (Nat.gcd_dvd_right _ _), Nat.dvd_trans h2 (Nat.gcd_dvd_right _ _), Nat.dvd_trans h3 (Nat.gcd_dvd_right _ _), Nat.gcd_dvd_right _ _, Nat.dvd_trans h1 (Nat.gcd_dvd_left _ _)⟩
theorem lowD_dvd (z : ZNum) : lowD z ∣ z.c0 ∧ lowD z ∣ z.c1 ∧ lowD z ∣ z.c2 ∧ lowD z ∣ z.c3 ∧ lowD z ∣ z.d := by
  obtain ⟨h0, h1, h2, h3, h4⟩ := gcd5_dvd z
  have f : ∀ a : Int, gcd5 z ∣ a.natAbs → lowD z ∣ a := by
    intro a h
    have h' : ((gcd5 z : Nat) : Int) ∣ a := Int.ofNat_dvd_left.2 h
    unfold lowD
    split
    · exact Int.neg_dvd.2 h'
    · exact h'
  exact ⟨f _ h0, f _ h1, f _ h2, f _ h3, f _ h4⟩
theorem B_low {z : ZNum} {n : Nat} (hB : z.B n) : (low z).B n := by
  obtain ⟨h0, h1, h2, h3, h4⟩ := lowD_dvd z
  exact ⟨Bd_fdiv hB.h0 h0, Bd_fdiv hB.h1 h1, Bd_fdiv hB.h2 h2, Bd_fdiv hB.h3 h3, Bd_fdiv hB.hd h4⟩

theorem Ok_low {z : ZNum} (hd : z.d ≠ 0) : (low z).Ok := by
  have hne := lowD_ne hd
  obtain ⟨⟨a0, e0⟩, ⟨a1, e1⟩, ⟨a2, e2⟩, ⟨a3, e3⟩, ⟨a4, e4⟩⟩ := lowD_dvd z
  have f : ∀ c a : Int, c = lowD z * a → c.fdiv (lowD z) = a := by
    intro c a h; rw [h, Int.mul_fdiv_cancel_left _ hne]
  have hG : (lowD z).natAbs = gcd5 z := by unfold lowD; split <;> omega
  have hG0 : 0 < gcd5 z := Nat.pos_of_ne_zero (gcd5_ne hd)
  constructor
  · simp only [low]
    rw [f _ _ e4]
    by_cases h : z.d < 0
    · have hl : lowD z < 0 := by unfold lowD; rw [if_pos h]; omega
      rcases Int.lt_trichotomy a4 0 with h2 | h2 | h2
      · have := Int.mul_pos_of_neg_of_neg hl h2; omega
      · subst h2; simp at e4; omega
      · exact h2
    · have hl : 0 < lowD z := by unfold lowD; rw [if_neg h]; omega
      rcases Int.lt_trichotomy a4 0 with h2 | h2 | h2
      · have := Int.mul_neg_of_pos_of_neg hl h2; omega
      · subst h2; simp at e4; omega
      · exact h2
  · have hl : low z = ⟨a0, a1, a2, a3, a4⟩ := by simp only [low, f _ _ e0, f _ _ e1, f _ _ e2, f _ _ e3, f _ _ e4]
    rw [hl]
    have hg : gcd5 z = gcd5 z * gcd5 ⟨a0, a1, a2, a3, a4⟩ := by
      conv => lhs; unfold gcd5
      rw [e0, e1, e2, e3, e4]
      simp only [Int.natAbs_mul, hG, Nat.gcd_mul_left, gcd5]
    have : gcd5 z * gcd5 ⟨a0, a1, a2, a3, a4⟩ = gcd5 z * 1 := by omega
    exact Nat.eq_of_mul_eq_mul_left hG0 this

theorem q_field_Add {x y : ZNum} {n m : Nat} (hx : x.B n) (hy : y.B m) (ox : x.Ok) (oy : y.Ok) (hn : n + m + 1 < 2 ^ 27) : Cm.q f_field_Add [numA (ofN x), numA (ofN y)] = some (numA (ofN (addZ x y))) := by
  refine q_by t_field_Add (Gives_of rfl ?_)
  have vx := q_Valid_ok hx ox (by omega)
  have vy := q_Valid_ok hy oy (by omega)
  have f : ∀ {a b c d : Int}, Bd n a → Bd m b → Bd m c → Bd n d → Cm.q f_bigint_Add [intA (ofZ (a * b)), intA (ofZ (c * d))] = some (intA (ofZ (a * b + c * d))) := by
    intro a b c d ha hb hc hd
    exact q_Add (ha.mul hb) ((hc.mul hd).mono (by omega)) (by omega)
  have x0 := q_Mul hx.h0 hy.hd (by omega)
  have x1 := q_Mul hx.h1 hy.hd (by omega)
  have x2 := q_Mul hx.h2 hy.hd (by omega)
  have x3 := q_Mul hx.h3 hy.hd (by omega)
  have y0 := q_Mul hy.h0 hx.hd (by omega)
  have y1 := q_Mul hy.h1 hx.hd (by omega)
  have y2 := q_Mul hy.h2 hx.hd (by omega)
  have y3 := q_Mul hy.h3 hx.hd (by omega)
  have s0 := f hx.h0 hy.hd hy.h0 hx.hd
  have s1 := f hx.h1 hy.hd hy.h1 hx.hd
  have s2 := f hx.h2 hy.hd hy.h2 hx.hd
  have s3 := f hx.h3 hy.hd hy.h3 hx.hd
  have dd := q_Mul hx.hd hy.hd (by omega)
  have hlow := q_lowest (B_addP hx hy) (by have h1 := ox.pos; have h2 := oy.pos; have : 0 < x.d * y.d := Int.mul_pos h1 h2; simp only [addP]; omega) (by omega)
  have a0 : (ofN x).c.a0 = ofZ x.c0 := rfl
  have a1 : (ofN x).c.a1 = ofZ x.c1 := rfl
  have a2 : (ofN x).c.a2 = ofZ x.c2 := rfl
  have a3 : (ofN x).c.a3 = ofZ x.c3 := rfl
  have a4 : (ofN x).d = ofZ x.d := rfl
  have b0 : (ofN y).c.a0 = ofZ y.c0 := rfl
  have b1 : (ofN y).c.a1 = ofZ y.c1 := rfl
  have b2 : (ofN y).c.a2 = ofZ y.c2 := rfl
  have b3 : (ofN y).c.a3 = ofZ y.c3 := rfl
  have b4 : (ofN y).d = ofZ y.d := rfl
  have e : (addP x y).arr = ⟨ofZ (x.c0 * y.d + y.c0 * x.d), ofZ (x.c1 * y.d + y.c1 * x.d), ofZ (x.c2 * y.d + y.c2 * x.d), ofZ (x.c3 * y.d + y.c3 * x.d)⟩ := rfl
  have e2 : (addP x y).d = x.d * y.d := rfl
  rw [e, e2] at hlow
  simp [e_field_Add, l_field_Add_0, V_round, vx, vy, a0, a1, a2, a3, a4, b0, b1, b2, b3, b4, x0, x1, x2, x3, y0, y1, y2, y3, s0, s1, s2, s3, dd, hlow]
  rfl

/-- The opposite. -/
def negZ (x : ZNum) : ZNum := ⟨-x.c0, -x.c1, -x.c2, -x.c3, x.d⟩
theorem q_field_Neg {x : ZNum} {n : Nat} (hx : x.B n) (ox : x.Ok) (hn : n < 2 ^ 27) : Cm.q f_field_Neg [numA (ofN x)] = some (numA (ofN (negZ x))) := by
  refine q_by t_field_Neg (Gives_of rfl ?_)
  have vx := q_Valid_ok hx ox (by omega)
  have n0 := q_Neg x.c0
  have n1 := q_Neg x.c1
  have n2 := q_Neg x.c2
  have n3 := q_Neg x.c3
  have a0 : (ofN x).c.a0 = ofZ x.c0 := rfl
  have a1 : (ofN x).c.a1 = ofZ x.c1 := rfl
  have a2 : (ofN x).c.a2 = ofZ x.c2 := rfl
  have a3 : (ofN x).c.a3 = ofZ x.c3 := rfl
  simp [e_field_Neg, l_field_Neg_0, V_round, vx, a0, a1, a2, a3, n0, n1, n2, n3]
  rfl
end Go.Proofs.YteaopgkajbfkeaaGreatDoor
namespace Go.Proofs.YteaopgkajbfkeaaGreatDoor
open Go

/-- Four integers. -/
structure Z4 where
  c0 : Int
  c1 : Int
  c2 : Int
  c3 : Int
def Z4.arr (c : Z4) : GArr := ⟨ofZ c.c0, ofZ c.c1, ofZ c.c2, ofZ c.c3⟩
def Z4.get (c : Z4) (i : Nat) : Int := match i with | 0 => c.c0 | 1 => c.c1 | 2 => c.c2 | _ => c.c3
def Z4.add (c : Z4) (i : Nat) (v : Int) : Z4 := match i with | 0 => { c with c0 := c.c0 + v } | 1 => { c with c1 := c.c1 + v } | 2 => { c with c2 := c.c2 + v } | _ => { c with c3 := c.c3 + v }
def Z4.B (n : Nat) (c : Z4) : Prop := ∀ i, Bd n (c.get i)
def ZNum.c4 (z : ZNum) : Z4 := ⟨z.c0, z.c1, z.c2, z.c3⟩
/-- What two roots have in common, and the root of their product. -/
def sqK (i j : Nat) : Int := match i, j with | 1, 1 => 2 | 1, 3 => 2 | 3, 1 => 2 | 2, 2 => 3 | 2, 3 => 3 | 3, 2 => 3 | 3, 3 => 6 | _, _ => 1
def sqX (i j : Nat) : Nat := match i, j with | 0, j => j | i, 0 => i | 1, 1 => 0 | 1, 2 => 3 | 1, 3 => 2 | 2, 1 => 3 | 2, 2 => 0 | 2, 3 => 1 | 3, 1 => 2 | 3, 2 => 1 | _, _ => 0
def pStep (x y : Z4) (i : Nat) (c : Z4) (j : Nat) : Z4 := c.add (sqX i j) (sqK i j * (x.get i * y.get j))
def pRow (x y : Z4) (i n : Nat) (c : Z4) : Z4 := (List.range n).foldl (pStep x y i) c
def pAll (x y : Z4) (n : Nat) : Z4 := (List.range n).foldl (fun c i => pRow x y i 4 c) ⟨0, 0, 0, 0⟩
theorem pRow_succ (x y : Z4) (i n : Nat) (c : Z4) : pRow x y i (n + 1) c = pStep x y i (pRow x y i n c) n := by simp [pRow, List.range_succ]
theorem pAll_succ (x y : Z4) (n : Nat) : pAll x y (n + 1) = pRow x y n 4 (pAll x y n) := by simp [pAll, List.range_succ]

theorem Z4.B.add {n m : Nat} {c : Z4} {v : Int} (hc : c.B n) (hv : Bd m v) (hm : m ≤ n) (i : Nat) : (c.add i v).B (n + 1) := by
  have hv' : Bd n v := hv.mono hm
  have key : ∀ a : Int, Bd n a → Bd (n + 1) (a + v) := by
    intro a ha
    have := ha.add hv'
    rwa [Nat.max_self] at this
  intro k
  have h0 := hc 0
  have h1 := hc 1
  have h2 := hc 2
  have h3 := hc 3
  have m1 : ∀ a : Int, Bd n a → Bd (n + 1) a := fun a h => h.mono (by omega)
  match i, k with
  | 0, 0 => exact key _ h0
  | 0, 1 => exact m1 _ h1
  | 0, 2 => exact m1 _ h2
  | 0, (k + 3) => exact m1 _ h3
  | 1, 0 => exact m1 _ h0
  | 1, 1 => exact key _ h1
  | 1, 2 => exact m1 _ h2
  | 1, (k + 3) => exact m1 _ h3
  | 2, 0 => exact m1 _ h0
  | 2, 1 => exact m1 _ h1
  | 2, 2 => exact key _ h2
  | 2, (k + 3) => exact m1 _ h3
  | (i + 3), 0 => exact m1 _ h0
  | (i + 3), 1 => exact m1 _ h1
  | (i + 3), 2 => exact m1 _ h2
  | (i + 3), (k + 3) => exact key _ h3

/-- The state of a product: the place, memory, what is added up. -/
structure PSt where
  j : Nat
  h : Store
  c : Z4

theorem add_zero4 (c : Z4) (i : Nat) : c.add i 0 = c := by
  unfold Z4.add; split <;> simp

theorem lt4 {i : Nat} (h : i < 4) : i = 0 ∨ i = 1 ∨ i = 2 ∨ i = 3 := by omega
theorem part4 {c : Z4} {i : Nat} (h : i < 4) : partOf true 2 (i * 2) (.agg (GArr.C c.arr)) = some (intA (ofZ (c.get i))) := by
  rcases lt4 h with rfl | rfl | rfl | rfl <;> rfl
theorem splice4 {c : Z4} {i : Nat} {v : Int} (h : i < 4) : splice (GArr.C c.arr) (i * 2) (GInt.C (ofZ (c.get i + v))) = GArr.C (c.add i v).arr := by
  rcases lt4 h with rfl | rfl | rfl | rfl <;> rfl
theorem sqX_lt {i j : Nat} (hi : i < 4) (hj : j < 4) : sqX i j < 4 := by
  rcases lt4 hi with rfl | rfl | rfl | rfl <;> rcases lt4 hj with rfl | rfl | rfl | rfl <;> decide
theorem xor4 {i j : Nat} (hi : i < 4) (hj : j < 4) : xorI .i64 (i : Int) (j : Int) = (sqX i j : Nat) := by
  rcases lt4 hi with rfl | rfl | rfl | rfl <;> rcases lt4 hj with rfl | rfl | rfl | rfl <;> rfl
theorem and4 {i j : Nat} (hi : i < 4) (hj : j < 4) : ∃ (a : Nat) (b : UInt8), andI .i64 (i : Int) (j : Int) = a ∧ ([49, 50, 51, 54] : List UInt8)[a]? = some b ∧ (b.toNat : Int) = 48 + sqK i j ∧ 1 ≤ sqK i j ∧ sqK i j ≤ 6 := by
  refine ⟨(andI .i64 (i : Int) (j : Int)).toNat, UInt8.ofNat (48 + (sqK i j).toNat), ?_⟩
  rcases lt4 hi with rfl | rfl | rfl | rfl <;> rcases lt4 hj with rfl | rfl | rfl | rfl <;> decide

/-- One pair of coefficients after another. -/
theorem prod_loop1 {x y : Z4} {n m : Nat} (hx : x.B n) (hy : y.B m) {c0 : Z4} {N : Nat} (hc0 : c0.B N) (hN : n + m + 1 ≤ N) (hN2 : N + 4 < 2 ^ 27) {i : Nat} (hi : i < 4) {h0 : Store} {r : Nat} (hr0 : 4 ≤ r) (hr : r < h0.length)
    {B0 B1 B2 : Blk} (g0 : getB h0 0 = some B0) (g1 : getB h0 1 = some B1) (g2 : getB h0 2 = some B2) (g3 : getB h0 3 = some ⟨GArr.C c0.arr, 2, true, false⟩) (gr : getB h0 r = some ⟨GInt.C (ofZ (x.get i)), 1, false, false⟩)
    {mm : List (Nat × AV)} {d : AV} {Q : Ex → St → Prop}
    (m2 : lk d mm 2 = .ref 0 0) (m3 : lk d mm 3 = .ref 1 0) (m4 : lk d mm 4 = .ref 2 0) (m5 : lk d mm 5 = .ref 3 0) (m6 : lk d mm 6 = .int .i64 i) (m7 : lk d mm 7 = .ref r 0) (m12 : lk d mm 12 = arrA x.arr) (m13 : lk d mm 13 = .int .i64 i) (m18 : lk d mm 18 = arrA y.arr) (m19 : lk d mm 19 = .int .i64 0)
    (hq : ∀ m' d' h', lk d' m' 2 = .ref 0 0 → lk d' m' 3 = .ref 1 0 → lk d' m' 4 = .ref 2 0 → lk d' m' 5 = .ref 3 0 → lk d' m' 12 = arrA x.arr → lk d' m' 13 = .int .i64 i → h0.length ≤ h'.length → getB h' 0 = some B0 → getB h' 1 = some B1 → getB h' 2 = some B2 → getB h' 3 = some ⟨GArr.C (pRow x y i 4 c0).arr, 2, true, false⟩ → (pRow x y i 4 c0).B (N + 4) → Q .nrm (mkL 62 d' m', h')) :
    V Cm 0 l_field_product_1 (mkL 62 d mm, h0) Q ⟨⟩ ⟨⟩ := by
  unfold l_field_product_1
  simp
  refine V.loop (fun s : PSt => s.j ≤ 4 ∧ h0.length ≤ s.h.length ∧ getB s.h 0 = some B0 ∧ getB s.h 1 = some B1 ∧ getB s.h 2 = some B2 ∧ getB s.h 3 = some ⟨GArr.C s.c.arr, 2, true, false⟩ ∧ getB s.h r = some ⟨GInt.C (ofZ (x.get i)), 1, false, false⟩ ∧ s.c = pRow x y i s.j c0 ∧ s.c.B (N + s.j))
    (fun s => (mkL 62 .any [(2, .ref 0 0), (3, .ref 1 0), (4, .ref 2 0), (5, .ref 3 0), (6, .int .i64 i), (7, .ref r 0), (12, arrA x.arr), (13, .int .i64 i), (18, arrA y.arr), (19, .int .i64 s.j)], s.h)) (fun s => 4 - s.j) ?_ ⟨0, h0, c0⟩ ⟨Nat.zero_le _, Nat.le_refl _, g0, g1, g2, g3, gr, rfl, hc0⟩ ?_
  · rintro ⟨j, h, c⟩ ⟨hj4, hl, k0, k1, k2, k3, kr, hce, hcB⟩
    dsimp only at hj4 hl k0 k1 k2 k3 kr hce hcB
    by_cases hj : j < 4
    · have p1 := part4 (c := y) hj
      have q3 : getB (h ++ [⟨GInt.C (ofZ (y.get j)), 1, false, false⟩]) 3 = some ⟨GArr.C c.arr, 2, true, false⟩ := by rw [getB_app_lt (by omega)]; exact k3
      have qr : getB (h ++ [⟨GInt.C (ofZ (y.get j)), 1, false, false⟩]) r = some ⟨GInt.C (ofZ (x.get i)), 1, false, false⟩ := by rw [getB_app_lt (by omega)]; exact kr
      have kz : x.get i = 0 ∨ y.get j = 0 → pRow x y i (j + 1) c0 = c := by
        intro hz
        rw [pRow_succ, ← hce, pStep]
        rcases hz with hz | hz <;> rw [hz] <;> simp [add_zero4]
      by_cases hx0 : x.get i = 0
      · simp (disch := omega) [p1, qr, hx0]
        refine ⟨⟨j + 1, _, c⟩, ⟨by simp only; omega, ?_, getB_app_some k0, getB_app_some k1, getB_app_some k2, getB_app_some k3, ?_, (kz (.inl hx0)).symm, ?_⟩, by simp only; omega, rfl, rfl⟩
        · simp; omega
        · rw [hx0] at kr; exact getB_app_some kr
        · exact fun k => (hcB k).mono (by simp only; omega)
      · by_cases hy0 : y.get j = 0
        · simp (disch := omega) [p1, qr, hx0]
          simp (disch := omega) [hy0]
          refine ⟨⟨j + 1, _, c⟩, ⟨by simp only; omega, ?_, getB_app_some k0, getB_app_some k1, getB_app_some k2, getB_app_some k3, getB_app_some kr, (kz (.inr hy0)).symm, ?_⟩, by simp only; omega, rfl, rfl⟩
          · simp; omega
          · exact fun k => (hcB k).mono (by simp only; omega)
        · obtain ⟨a, b, ea, eb, ec, e1, e6⟩ := and4 hi hj
          have hX := xor4 hi hj
          have hXl := sqX_lt hi hj
          have hOf := q_Of (z := sqK i j) (by omega) (by omega)
          have hM1 := q_Mul (hx i) (hy j) (by omega)
          have hM2 := q_Mul (a := sqK i j) (n := 1) (by unfold Bd; omega) ((hx i).mul (hy j)) (by omega)
          have hBd : Bd (n + m + 1) (sqK i j * (x.get i * y.get j)) := by
            have := Bd.mul (a := sqK i j) (n := 1) (by unfold Bd; omega) ((hx i).mul (hy j))
            exact this.mono (by omega)
          have hA := q_Add (hcB (sqX i j)) (hBd.mono (show n + m + 1 ≤ N + j by omega)) (by omega)
          have p2 := part4 (c := c) hXl
          have p3 := splice4 (c := c) (v := sqK i j * (x.get i * y.get j)) hXl
          have hst : pRow x y i (j + 1) c0 = c.add (sqX i j) (sqK i j * (x.get i * y.get j)) := by rw [pRow_succ, ← hce, pStep]
          generalize hv : sqK i j * (x.get i * y.get j) = v at *
          generalize hkk : sqX i j = kk at *
          generalize hsk : sqK i j = sk at *
          simp (disch := omega) [p1, qr, hx0]
          have e48 : (48 : Int) + sk - 48 = sk := by omega
          simp (disch := omega) [hy0, ea, eb, ec, e48, hOf, hX, getB_app_lt, set_app_lt, k3, kr, p2, p3, hM1, hM2, hA, hv]
          have hd : Z4.B (N + (j + 1)) (c.add kk v) := hcB.add hBd (by omega) kk
          refine ⟨⟨j + 1, _, c.add kk v⟩, ⟨by simp only; omega, ?_, ?_, ?_, ?_, ?_, ?_, hst.symm, hd⟩, by simp only; omega, rfl, rfl⟩
          · simp; omega
          · exact getB_app_some (by rw [getB_set_ne (by omega)]; exact k0)
          · exact getB_app_some (by rw [getB_set_ne (by omega)]; exact k1)
          · exact getB_app_some (by rw [getB_set_ne (by omega)]; exact k2)
          · exact getB_app_some (by rw [getB_set_eq (by omega)]; rfl)
          · exact getB_app_some (by rw [getB_set_ne (by omega)]; exact kr)
    · obtain rfl : j = 4 := by omega
      simp (disch := omega)
      subst hce
      exact hq _ _ h (by simp) (by simp) (by simp) (by simp) (by simp) (by simp) hl k0 k1 k2 k3 hcB
  · simp [m2, m3, m4, m5, m6, m7, m12, m13, m18, m19]

theorem prod_loop0 {x y : Z4} {n m : Nat} (hx : x.B n) (hy : y.B m) (hN : n + m + 17 < 2 ^ 27) {h0 : Store}
    {B0 B1 B2 : Blk} (h4 : 4 ≤ h0.length) (b1 : B1.esz = 1) (g0 : getB h0 0 = some B0) (g1 : getB h0 1 = some B1) (g2 : getB h0 2 = some B2) (g3 : getB h0 3 = some ⟨GArr.C (Z4.arr ⟨0, 0, 0, 0⟩), 2, true, false⟩)
    (hB1 : partOf true 8 0 (.agg B1.cells) = some (arrA y.arr))
    {mm : List (Nat × AV)} {d : AV} {Q : Ex → St → Prop}
    (m2 : lk d mm 2 = .ref 0 0) (m3 : lk d mm 3 = .ref 1 0) (m4 : lk d mm 4 = .ref 2 0) (m5 : lk d mm 5 = .ref 3 0) (m12 : lk d mm 12 = arrA x.arr) (m13 : lk d mm 13 = .int .i64 0)
    (hq : ∀ m' d' h', lk d' m' 2 = .ref 0 0 → lk d' m' 3 = .ref 1 0 → lk d' m' 4 = .ref 2 0 → lk d' m' 5 = .ref 3 0 → 4 ≤ h'.length → getB h' 0 = some B0 → getB h' 1 = some B1 → getB h' 2 = some B2 → getB h' 3 = some ⟨GArr.C (pAll x y 4).arr, 2, true, false⟩ → (pAll x y 4).B (n + m + 17) → Q .nrm (mkL 62 d' m', h')) :
    V Cm 0 l_field_product_0 (mkL 62 d mm, h0) Q ⟨⟩ ⟨⟩ := by
  unfold l_field_product_0
  simp
  refine V.loop (fun s : PSt => s.j ≤ 4 ∧ 4 ≤ s.h.length ∧ getB s.h 0 = some B0 ∧ getB s.h 1 = some B1 ∧ getB s.h 2 = some B2 ∧ getB s.h 3 = some ⟨GArr.C s.c.arr, 2, true, false⟩ ∧ s.c = pAll x y s.j ∧ s.c.B (n + m + 1 + 4 * s.j))
    (fun s => (mkL 62 .any [(2, .ref 0 0), (3, .ref 1 0), (4, .ref 2 0), (5, .ref 3 0), (12, arrA x.arr), (13, .int .i64 s.j)], s.h)) (fun s => 4 - s.j) ?_ ⟨0, h0, ⟨0, 0, 0, 0⟩⟩ ⟨Nat.zero_le _, h4, g0, g1, g2, g3, rfl, ?_⟩ ?_
  · rintro ⟨i, h, c⟩ ⟨hj4, hl, k0, k1, k2, k3, hce, hcB⟩
    dsimp only at hj4 hl k0 k1 k2 k3 hce hcB
    by_cases hi : i < 4
    · have p1 := part4 (c := x) hi
      have q1 : getB (h ++ [⟨GInt.C (ofZ (x.get i)), 1, false, false⟩]) 1 = some B1 := getB_app_some k1
      simp (disch := omega) [p1, q1, hB1]
      refine prod_loop1 hx hy hcB (by omega) (by omega) hi (r := h.length) hl (by simp) (getB_app_some k0) q1 (getB_app_some k2) (getB_app_some k3) (by simp) ?_ ?_ ?_ ?_ ?_ ?_ ?_ ?_ ?_ ?_ ?_ <;> (try simp)
      intro m' d' h' f2 f3 f4 f5 f12 f13 hl' e0 e1 e2 e3 eB
      simp (disch := omega) [f2, f3, f4, f5, f12, f13]
      refine ⟨⟨i + 1, h', pRow x y i 4 c⟩, ⟨by simp only; omega, by simp only; omega, e0, e1, e2, e3, by rw [pAll_succ, hce], ?_⟩, by simp only; omega, rfl, rfl⟩
      exact fun k => (eB k).mono (by simp only; omega)
    · obtain rfl : i = 4 := by omega
      simp (disch := omega)
      subst hce
      exact hq _ _ h (by simp) (by simp) (by simp) (by simp) hl k0 k1 k2 k3 hcB
  · intro k; simp only [Z4.get]; split <;> exact Bd.zero
  · simp [m2, m3, m4, m5, m12, m13]

/-- A product. -/
def mulP (x y : ZNum) : ZNum :=
  ⟨x.c0 * y.c0 + 2 * (x.c1 * y.c1) + 3 * (x.c2 * y.c2) + 6 * (x.c3 * y.c3), x.c0 * y.c1 + x.c1 * y.c0 + 3 * (x.c2 * y.c3) + 3 * (x.c3 * y.c2),
   x.c0 * y.c2 + 2 * (x.c1 * y.c3) + x.c2 * y.c0 + 2 * (x.c3 * y.c1), x.c0 * y.c3 + x.c1 * y.c2 + x.c2 * y.c1 + x.c3 * y.c0, x.d * y.d⟩
def mulZ (x y : ZNum) : ZNum := low (mulP x y)
theorem pAll_eq (x y : ZNum) : pAll x.c4 y.c4 4 = (mulP x y).c4 := by
  simp [pAll, pRow, pStep, List.range_succ, Z4.add, sqX, sqK, Z4.get, ZNum.c4, mulP]
theorem B_c4 {x : ZNum} {n : Nat} (h : x.B n) : x.c4.B n := by
  intro k; simp only [Z4.get, ZNum.c4]; split
  · exact h.h0
  · exact h.h1
  · exact h.h2
  · exact h.h3

theorem B_mulP {x y : ZNum} {n m : Nat} (hx : x.B n) (hy : y.B m) (h : (pAll x.c4 y.c4 4).B (n + m + 17)) : (mulP x y).B (n + m + 17) := by
  rw [pAll_eq] at h
  exact ⟨h 0, h 1, h 2, h 3, (hx.hd.mul hy.hd).mono (by omega)⟩

theorem q_product {x y : ZNum} {n m : Nat} (hx : x.B n) (hy : y.B m) (ox : x.Ok) (oy : y.Ok) (hN : n + m + 17 < 2 ^ 27) : Cm.q f_field_product [numA (ofN x), numA (ofN y)] = some (numA (ofN (mulZ x y))) := by
  refine q_by t_field_product (Gives_of rfl ?_)
  have e0 : (GArr.C ⟨⟨false, []⟩, ⟨false, []⟩, ⟨false, []⟩, ⟨false, []⟩⟩) = GArr.C (Z4.arr ⟨0, 0, 0, 0⟩) := by simp [Z4.arr, ofZ_zero]
  have ax : (ofN x).c = x.c4.arr := rfl
  have ay : (ofN y).c = y.c4.arr := rfl
  have dx : (ofN x).d = ofZ x.d := rfl
  have dy : (ofN y).d = ofZ y.d := rfl
  have hd : x.d * y.d ≠ 0 := by have := Int.mul_pos ox.pos oy.pos; omega
  have hM := q_Mul hx.hd hy.hd (by omega)
  simp (disch := omega) [e_field_product, ax]
  refine prod_loop0 (B_c4 hx) (B_c4 hy) hN (B0 := ⟨GNum.C (ofN x), 1, false, false⟩) (B1 := ⟨GNum.C (ofN y), 1, false, false⟩) (by simp) rfl (by simp) (by simp) (by simp; rfl) (by simp [e0]) (by simp [ay]) ?_ ?_ ?_ ?_ ?_ ?_ ?_ <;> (try simp)
  intro m' d' h' f2 f3 f4 f5 hl k0 k1 k2 k3 kB
  have hlow := q_lowest (B_mulP hx hy kB) hd hN
  rw [pAll_eq] at k3
  have e3 : (mulP x y).c4.arr = (mulP x y).arr := rfl
  have e4 : (mulP x y).d = x.d * y.d := rfl
  rw [e3] at k3
  rw [e4] at hlow
  simp (disch := omega) [f2, f3, f4, f5, k0, k1, k2, k3, dx, dy, hM, hlow, getB_set_eq]
  rfl

theorem B_mulP4 {x y : ZNum} {n m : Nat} (hx : x.B n) (hy : y.B m) : (mulP x y).B (n + m + 4) := by
  have s1 : ∀ {k : Int}, 0 ≤ k → k < 256 → ∀ {v : Int}, Bd (n + m) v → Bd (n + m + 1) (k * v) := by
    intro k h1 h2 v hv
    have := Bd.mul (a := k) (n := 1) (by unfold Bd; omega) hv
    exact this.mono (by omega)
  have s4 : ∀ {a b c d : Int}, Bd (n + m + 1) a → Bd (n + m + 1) b → Bd (n + m + 1) c → Bd (n + m + 1) d → Bd (n + m + 4) (a + b + c + d) := by
    intro a b c d ha hb hc hd
    have h1 := ha.add hb
    rw [Nat.max_self] at h1
    have h2 := h1.add (hc.mono (show n + m + 1 ≤ n + m + 1 + 1 by omega))
    rw [Nat.max_self] at h2
    have h3 := h2.add (hd.mono (show n + m + 1 ≤ n + m + 1 + 1 + 1 by omega))
    rw [Nat.max_self] at h3
    exact h3
  have w : ∀ {a b : Int}, Bd n a → Bd m b → Bd (n + m + 1) (a * b) := fun ha hb => (ha.mul hb).mono (by omega)
  refine ⟨s4 (w hx.h0 hy.h0) (s1 (by omega) (by omega) (hx.h1.mul hy.h1)) (s1 (by omega) (by omega) (hx.h2.mul hy.h2)) (s1 (by omega) (by omega) (hx.h3.mul hy.h3)),
    s4 (w hx.h0 hy.h1) (w hx.h1 hy.h0) (s1 (by omega) (by omega) (hx.h2.mul hy.h3)) (s1 (by omega) (by omega) (hx.h3.mul hy.h2)),
    s4 (w hx.h0 hy.h2) (s1 (by omega) (by omega) (hx.h1.mul hy.h3)) (w hx.h2 hy.h0) (s1 (by omega) (by omega) (hx.h3.mul hy.h1)),
    s4 (w hx.h0 hy.h3) (w hx.h1 hy.h2) (w hx.h2 hy.h1) (w hx.h3 hy.h0), (hx.hd.mul hy.hd).mono (by omega)⟩

theorem B_mulZ {x y : ZNum} {n m : Nat} (hx : x.B n) (hy : y.B m) : (mulZ x y).B (n + m + 4) := B_low (B_mulP4 hx hy)
theorem Ok_mulZ {x y : ZNum} (ox : x.Ok) (oy : y.Ok) : (mulZ x y).Ok := Ok_low (by have := Int.mul_pos ox.pos oy.pos; simp only [mulP]; omega)
theorem B_addZ {x y : ZNum} {n m : Nat} (hx : x.B n) (hy : y.B m) : (addZ x y).B (n + m + 1) := B_low (B_addP hx hy)
theorem Ok_addZ {x y : ZNum} (ox : x.Ok) (oy : y.Ok) : (addZ x y).Ok := Ok_low (by have := Int.mul_pos ox.pos oy.pos; simp only [addP]; omega)
theorem B_negZ {x : ZNum} {n : Nat} (hx : x.B n) : (negZ x).B n := ⟨hx.h0.neg, hx.h1.neg, hx.h2.neg, hx.h3.neg, hx.hd⟩
theorem Ok_negZ {x : ZNum} (ox : x.Ok) : (negZ x).Ok := ⟨ox.pos, by have := ox.gcd; simpa [gcd5, negZ] using this⟩

theorem q_field_Mul {x y : ZNum} {n m : Nat} (hx : x.B n) (hy : y.B m) (ox : x.Ok) (oy : y.Ok) (hN : n + m + 17 < 2 ^ 27) : Cm.q f_field_Mul [numA (ofN x), numA (ofN y)] = some (numA (ofN (mulZ x y))) := by
  refine q_by t_field_Mul (Gives_of rfl ?_)
  have vx := q_Valid_ok hx ox (by omega)
  have vy := q_Valid_ok hy oy (by omega)
  have hp := q_product hx hy ox oy hN
  simp [e_field_Mul, vx, vy, hp]
end Go.Proofs.YteaopgkajbfkeaaGreatDoor
namespace Go.Proofs.YteaopgkajbfkeaaGreatDoor
open Go

/-- The reader in memory: the rest, and the error. -/
abbrev rd (rest : List UInt8) (e : Int) : Blk := ⟨[.str rest, .int .i64 e], 1, false, false⟩
structure RS where
  rest : List UInt8
  e : Int
abbrev RS.blk (r : RS) : Blk := rd r.rest r.e
def RS.fail (r : RS) (x : Int) : RS := ⟨r.rest, if r.e = 0 ∨ x = 4 then x else r.e⟩
def RS.digits (r : RS) : List UInt8 × RS := (r.rest.takeWhile isDig, ⟨r.rest.dropWhile isDig, r.e⟩)
def RS.passed (r : RS) (p : List UInt8) : Bool × RS := if p.isPrefixOf r.rest then (true, ⟨r.rest.drop p.length, r.e⟩) else (false, r)
def RS.integer (r : RS) : Int × RS :=
  let d := r.digits
  let n := parseI d.1
  (n.1, if n.2 ≠ 0 ∨ 60 < d.1.length then d.2.fail 4 else d.2)

section
variable {h : Store} {b : Nat} {r : RS}

theorem m_rd {g : Nat} {F : PFun} (hT : TT g = some (.code F)) {us : List AV} {B B' : Blk} {u : AV} (hb : getB h b = some B)
    (hh : Gives' Cm F us (stJ h b B []) fun v h' => ∃ J, freeze h' v = some u ∧ (reachN h' 8 v).all (fun c => decide (h.length ≤ c)) = true ∧ h' = stJ h b B' J) : Cm.m g us h = some (u, h.set b B') := by
  have hst := stJ_of hb
  have key : Cm.m g us (stJ h b B []) = some (u, h.set b B') := by
    refine m_by hT ?_
    obtain ⟨v, h', h1, J, h2, h3, h4⟩ := hh
    refine ⟨v, h', h1, h2, ?_, ?_⟩
    · simpa using h3
    · rw [h4]; simp
  rwa [← hst] at key

theorem m_fail {rest : List UInt8} {e : Int} (hb : getB h b = some (rd rest e)) (x : Int) : Cm.m f_field_reader_fail [.ref b 0, .int .i64 x] h = some (.tup [], h.set b (RS.fail ⟨rest, e⟩ x).blk) := by
  have hl := lt_of_getB hb
  refine m_rd t_field_reader_fail hb (Gives_of rfl ?_)
  by_cases h1 : e = 0
  · simp [e_field_reader_fail, hl, h1]
    exact ⟨[], by simp [RS.fail]⟩
  · by_cases h2 : x = 4
    · simp [e_field_reader_fail, hl, h1, h2]
      exact ⟨[], by simp [RS.fail]⟩
    · simp [e_field_reader_fail, hl, h1, h2]
      exact ⟨[], by simp [RS.fail, h1, h2]⟩

theorem takeWhile_of {l : List UInt8} {n : Nat} (hn : n ≤ l.length) (ha : AllDig (l.take n)) (hx : ∀ h : n < l.length, isDig l[n] = false) : l.takeWhile isDig = l.take n ∧ l.dropWhile isDig = l.drop n := by
  induction l generalizing n with
  | nil => simp
  | cons c l ih =>
    cases n with
    | zero =>
      have := hx (by simp)
      simp at this
      simp [this]
    | succ n =>
      have hc : isDig c = true := ha c (by simp)
      have := ih (n := n) (by simpa using hn) (fun y hy => ha y (by simp [hy])) (fun h => by have := hx (by simpa using h); simpa using this)
      simp [hc, this]

theorem m_digits {rest : List UInt8} {e : Int} (hb : getB h b = some (rd rest e)) (hlen : rest.length < 2 ^ 62) : Cm.m f_field_reader_digits [.ref b 0] h = some (.str (RS.digits ⟨rest, e⟩).1, h.set b (RS.digits ⟨rest, e⟩).2.blk) := by
  have hl := lt_of_getB hb
  refine m_rd t_field_reader_digits hb (Gives_of rfl ?_)
  simp [e_field_reader_digits, l_field_reader_digits_0]
  refine V.loop (fun n : Nat => n ≤ rest.length ∧ AllDig (rest.take n)) (fun n => (mkL 48 .any [(0, .ref b 0), (3, .int .i64 n)], stJ h b (rd rest e) [])) (fun n => rest.length - n) ?_ 0 ⟨Nat.zero_le _, by simp [AllDig]⟩ ?_
  · rintro n ⟨hn, ha⟩
    have fin : (∀ h : n < rest.length, isDig rest[n] = false) → (RS.digits ⟨rest, e⟩).1 = rest.take n ∧ (RS.digits ⟨rest, e⟩).2 = ⟨rest.drop n, e⟩ := by
      intro hx
      obtain ⟨h1, h2⟩ := takeWhile_of hn ha hx
      simp only [RS.digits, h1, h2, and_self]
    by_cases h1 : n < rest.length
    · obtain ⟨x, hx⟩ : ∃ x, rest[n] = x := ⟨_, rfl⟩
      by_cases hd : isDig x = true
      · have h2 := hd
        simp [isDig] at h2
        simp (disch := omega) [hl, hx]
        refine ⟨n + 1, ⟨by omega, ?_⟩, by omega, by simp⟩
        rw [List.take_succ_eq_append_getElem h1, hx]
        intro c hc
        rcases List.mem_append.1 hc with hc | hc
        · exact ha c hc
        · rw [List.mem_singleton.1 hc]; exact hd
      · obtain ⟨e1, e2⟩ := fin (fun _ => by rw [hx]; simpa using hd)
        by_cases h3 : 48 ≤ x.toNat
        · have h4 : ¬ x.toNat ≤ 57 := by intro h4; apply hd; simp [isDig, h3, h4]
          simp (disch := omega) [hl, hx, e1, e2]
          exact ⟨[], rfl⟩
        · simp (disch := omega) [hl, hx, e1, e2]
          exact ⟨[], rfl⟩
    · obtain ⟨e1, e2⟩ := fin (fun h => absurd h h1)
      simp (disch := omega) [hl, e1, e2]
      exact ⟨[], rfl⟩
  · simp

theorem m_passed {rest : List UInt8} {e : Int} (hb : getB h b = some (rd rest e)) (p : List UInt8) : Cm.m f_field_reader_passed [.ref b 0, .str p] h = some (.bool (RS.passed ⟨rest, e⟩ p).1, h.set b (RS.passed ⟨rest, e⟩ p).2.blk) := by
  have hl := lt_of_getB hb
  refine m_rd t_field_reader_passed hb (Gives_of rfl ?_)
  have hc := q_CutPrefix rest p
  cases hp : p.isPrefixOf rest with
  | false =>
    rw [hp] at hc
    simp at hc
    simp [e_field_reader_passed, hl, hc, RS.passed, hp]
    exact ⟨[], rfl⟩
  | true =>
    rw [hp] at hc
    simp at hc
    simp [e_field_reader_passed, hl, hc, RS.passed, hp]
    exact ⟨[], rfl⟩

theorem m_integer {rest : List UInt8} {e : Int} (hb : getB h b = some (rd rest e)) (hlen : rest.length < 2 ^ 62) : Cm.m f_field_reader_integer [.ref b 0] h = some (intA (ofZ (RS.integer ⟨rest, e⟩).1), h.set b (RS.integer ⟨rest, e⟩).2.blk) := by
  have hl := lt_of_getB hb
  refine m_rd t_field_reader_integer hb (Gives_of rfl ?_)
  obtain ⟨s, hs⟩ : ∃ s, (RS.digits ⟨rest, e⟩).1 = s := ⟨_, rfl⟩
  obtain ⟨r, hr⟩ : ∃ r, (RS.digits ⟨rest, e⟩).2 = r := ⟨_, rfl⟩
  have hdg : ∀ J, Cm.m f_field_reader_digits [.ref b 0] (stJ h b (rd rest e) J) = some (.str s, stJ h b r.blk J) := by
    intro J
    rw [m_digits (rest := rest) (e := e) (by simp [hl]) hlen, hs, hr]
    simp [hl]
  have hsl : s.length < 2 ^ 62 := by
    rw [← hs]
    exact Nat.lt_of_le_of_lt (List.takeWhile_sublist _).length_le hlen
  have hp := q_bigint_Parse s hsl
  have hf : ∀ J, Cm.m f_field_reader_fail [.ref b 0, .int .i64 4] (stJ h b r.blk J) = some (.tup [], stJ h b (r.fail 4).blk J) := by
    intro J
    rw [m_fail (rest := r.rest) (e := r.e) (by simp [hl]) 4]
    simp [hl]
  have hi : RS.integer ⟨rest, e⟩ = ((parseI s).1, if (parseI s).2 ≠ 0 ∨ 60 < s.length then r.fail 4 else r) := by
    simp only [RS.integer, hs, hr]
  rw [hi]
  by_cases h1 : (parseI s).2 = 0
  · rw [h1] at hp
    by_cases h2 : 60 < s.length
    · simp (disch := omega) [e_field_reader_integer, hdg, hp, hf]
      exact ⟨_, by rw [if_pos (.inr h2)]⟩
    · simp (disch := omega) [e_field_reader_integer, hdg, hp, hf]
      exact ⟨_, by rw [if_neg (by simp [h1, h2])]⟩
  · simp (disch := omega) [e_field_reader_integer, hdg, hp, hf, h1]
    exact ⟨_, rfl⟩
end
end Go.Proofs.YteaopgkajbfkeaaGreatDoor
namespace Go.Proofs.YteaopgkajbfkeaaGreatDoor
open Go

def isLet (c : UInt8) : Bool := (decide (97 ≤ c.toNat) && decide (c.toNat ≤ 122)) || (decide (65 ≤ c.toNat) && decide (c.toNat ≤ 90))
def isWord (c : UInt8) : Bool := isLet c || isDig c || decide (c.toNat = 45) || decide (c.toNat = 95)
def reserved : List (List UInt8) := [[100,101,115,105,103,110], [111,114,100,101,114], [109,105,114,114,111,114], [116,105,101,114], [97,110,103,108,101], [97,116], [100,101,112,116,104], [109,101,101,116], [101,100,103,101], [104,101,105,103,104,116], [116,104,114,111,117,103,104]]
/-- How many bytes of a text's beginning are a word. -/
def wordL (s : List UInt8) : Nat := match s with
  | [] => 0
  | c :: _ => if isLet c then (s.takeWhile isWord).length else 0
def isName (s : List UInt8) : Bool := decide (s ≠ []) && decide (s.length ≤ 30) && decide (wordL s = s.length) && !decide (s ∈ reserved)

theorem q_letter (c : UInt8) : Cm.q f_lexer_letter [.int .u8 c.toNat] = some (.bool (isLet c)) := by
  refine q_by t_lexer_letter (Gives_of rfl ?_)
  have hc := UInt8.toNat_lt c
  by_cases h1 : 97 ≤ c.toNat <;> by_cases h2 : c.toNat ≤ 122 <;> by_cases h3 : 65 ≤ c.toNat <;> by_cases h4 : c.toNat ≤ 90 <;> first | (exfalso; omega) | (simp (disch := omega) [e_lexer_letter, isLet, h1, h2, h3, h4] <;> omega)  | simp (disch := omega) [e_lexer_letter, isLet, h1, h2, h3, h4]
theorem q_digit (c : UInt8) : Cm.q f_lexer_digit [.int .u8 c.toNat] = some (.bool (isDig c)) := by
  refine q_by t_lexer_digit (Gives_of rfl ?_)
  have hc := UInt8.toNat_lt c
  by_cases h1 : 48 ≤ c.toNat <;> by_cases h2 : c.toNat ≤ 57 <;> first | (exfalso; omega) | (simp (disch := omega) [e_lexer_digit, isDig, h1, h2] <;> omega) | simp (disch := omega) [e_lexer_digit, isDig, h1, h2]
theorem m_word1 (c : UInt8) (h : Store) : Cm.m f_lexer_word_1 [.int .u8 c.toNat] h = some (.bool (isWord c), h) := by
  refine m_by t_lexer_word_1 (Gives_of rfl ?_)
  have hl := q_letter c
  have hd := q_digit c
  generalize hL : isLet c = L at *
  generalize hD : isDig c = D at *
  by_cases h1 : c.toNat = 45
  · have hW : isWord c = true := by simp [isWord, h1]
    cases L <;> cases D <;> simp (disch := omega) [e_lexer_word_1, hW, hl, hd] <;> omega
  · by_cases h2 : c.toNat = 95
    · have hW : isWord c = true := by simp [isWord, h2]
      cases L <;> cases D <;> simp (disch := omega) [e_lexer_word_1, hW, hl, hd] <;> omega
    · have hW : isWord c = (L || D) := by simp [isWord, h1, h2, hL, hD]
      cases L <;> cases D <;> simp (disch := omega) [e_lexer_word_1, hW, hl, hd] <;> omega

theorem takeWhile_len {p : UInt8 → Bool} {s : List UInt8} {n : Nat} (hn : n ≤ s.length) (ha : ∀ c ∈ s.take n, p c = true) (hx : ∀ h : n < s.length, p s[n] = false) : (s.takeWhile p).length = n := by
  induction s generalizing n with
  | nil => simp at hn; simp [hn]
  | cons c s ih =>
    cases n with
    | zero => have := hx (by simp); simp at this; simp [this]
    | succ n =>
      have hc : p c = true := ha c (by simp)
      have := ih (n := n) (by simpa using hn) (fun y hy => ha y (by simp [hy])) (fun h => by have := hx (by simpa using h); simpa using this)
      simp [hc, this]

theorem m_run (s : List UInt8) (hs : s.length < 2 ^ 62) (h : Store) : Cm.m f_lexer_run [.str s, .fn f_lexer_word_1 [] []] h = some (.int .i64 (s.takeWhile isWord).length, h) := by
  refine m_by t_lexer_run (Gives_of rfl ?_)
  simp [e_lexer_run, l_lexer_run_0]
  refine V.loop (fun n : Nat => n ≤ s.length ∧ ∀ c ∈ s.take n, isWord c = true) (fun n => (mkL 20 .any [(0, .str s), (1, .fn f_lexer_word_1 [] []), (5, .int .i64 n)], h)) (fun n => s.length - n) ?_ 0 ⟨Nat.zero_le _, by simp⟩ ?_
  · rintro n ⟨hn, ha⟩
    by_cases h1 : n < s.length
    · obtain ⟨x, hx⟩ : ∃ x, s[n] = x := ⟨_, rfl⟩
      have hw := m_word1 x
      by_cases hd : isWord x = true
      · rw [hd] at hw
        simp (disch := omega) [hx, hw]
        refine ⟨n + 1, ⟨by omega, ?_⟩, by omega, by simp⟩
        rw [List.take_succ_eq_append_getElem h1, hx]
        intro c hc
        rcases List.mem_append.1 hc with hc | hc
        · exact ha c hc
        · rw [List.mem_singleton.1 hc]; exact hd
      · have e1 := takeWhile_len hn ha (fun _ => by rw [hx]; simpa using hd)
        have hd' : isWord x = false := by simpa using hd
        rw [hd'] at hw
        simp (disch := omega) [hx, hw, e1]
    · have e1 := takeWhile_len hn ha (fun h => absurd h h1)
      simp (disch := omega) [e1]
  · simp

theorem q_lexer_word (s : List UInt8) (hs : s.length < 2 ^ 62) : Cm.q f_lexer_word [.str s] = some (.int .i64 (wordL s)) := by
  refine q_by t_lexer_word (Gives_of rfl ?_)
  have hr := m_run s hs
  cases s with
  | nil => simp [e_lexer_word, wordL]
  | cons c s =>
    have hl := q_letter c
    by_cases h1 : isLet c = true
    · simp (disch := omega) [e_lexer_word, wordL, h1, hl, hr]
    · simp (disch := omega) [e_lexer_word, wordL, h1, hl, hr]

theorem q_Reserved (s : List UInt8) : Cm.q f_lexer_Reserved [.str s] = some (.bool (decide (s ∈ reserved))) := by
  refine q_by t_lexer_Reserved (Gives_of rfl ?_)
  by_cases h : s ∈ reserved
  · have h2 := h
    simp only [reserved, List.mem_cons, List.not_mem_nil, or_false] at h2
    rcases h2 with rfl | rfl | rfl | rfl | rfl | rfl | rfl | rfl | rfl | rfl | rfl <;> simp [e_lexer_Reserved] <;> decide
  · have h2 := h
    simp [reserved] at h2
    simp [e_lexer_Reserved, h2, h]

theorem q_IsName (s : List UInt8) (hs : s.length < 2 ^ 62) : Cm.q f_lexer_IsName [.str s] = some (.bool (isName s)) := by
  refine q_by t_lexer_IsName (Gives_of rfl ?_)
  have h1 := q_Reserved s
  have h2 := q_lexer_word s hs
  by_cases c1 : s = []
  · simp [e_lexer_IsName, c1, isName]
  · by_cases c2 : s.length ≤ 30
    · by_cases c3 : wordL s = s.length
      · by_cases c4 : s ∈ reserved
        · simp (disch := omega) [e_lexer_IsName, c1, c2, c3, c4, h1, h2, isName]
        · simp (disch := omega) [e_lexer_IsName, c1, c2, c3, c4, h1, h2, isName]
      · simp (disch := omega) [e_lexer_IsName, c1, c2, c3, h1, h2, isName]
    · simp (disch := omega) [e_lexer_IsName, c1, c2, h1, h2, isName]
end Go.Proofs.YteaopgkajbfkeaaGreatDoor
namespace Go.Proofs.YteaopgkajbfkeaaGreatDoor
open Go

/-- The first place of a list at which a test answers yes, or -1. -/
def idxI {α : Type} (p : α → Bool) : List α → Int
  | [] => -1
  | x :: l => if p x then 0 else if idxI p l = -1 then -1 else idxI p l + 1
theorem idxI_ge {α : Type} (p : α → Bool) (l : List α) : -1 ≤ idxI p l := by
  induction l with
  | nil => simp [idxI]
  | cons x l ih => simp only [idxI]; repeat' split <;> try omega
theorem idxI_any {α : Type} (p : α → Bool) (l : List α) : decide (0 ≤ idxI p l) = l.any p := by
  induction l with
  | nil => simp [idxI]
  | cons x l ih =>
    have := idxI_ge p l
    simp only [idxI, List.any_cons, ← ih]
    by_cases hp : p x = true <;> simp only [hp, if_true, Bool.true_or, Bool.false_or, if_false, Bool.false_eq_true]
    · simp
    · split <;> rw [decide_eq_decide] <;> omega
theorem idxI_none {α : Type} {p : α → Bool} {l : List α} (h : ∀ x ∈ l, p x = false) : idxI p l = -1 := by
  induction l with
  | nil => rfl
  | cons x l ih => rw [idxI, h x (by simp), ih (fun y hy => h y (by simp [hy]))]; simp
theorem idxI_at {α : Type} {p : α → Bool} {l : List α} {n : Nat} (hn : n < l.length) (h : ∀ x ∈ l.take n, p x = false) (hx : p l[n] = true) : idxI p l = n := by
  induction l generalizing n with
  | nil => simp at hn
  | cons x l ih =>
    cases n with
    | zero => simp at hx; simp [idxI, hx]
    | succ n =>
      have := ih (n := n) (by simpa using hn) (fun y hy => h y (by simp [hy])) (by simpa using hx)
      rw [idxI, h x (by simp), this]; simp

theorem m_IndexFunc_Ref {l : Sl GRef} {g : Nat} {a b : List AV} {p : GRef → Bool} {h : Store} (hl : (lst l).length < 2 ^ 62) (ha : a.map AV.untip = a) (hb : b.map AV.untip = b) (hp : ∀ x ∈ lst l, Cm.m g (a ++ .agg (GRef.C x) :: b) h = some (.bool (p x), h)) :
    Cm.m f_slices_IndexFunc_api_Ref_api_Ref [slA 2 (fun t => AV.agg (GRef.C t)) l, .fn g a b] h = some (.int .i64 (idxI p (lst l)), h) := by
  refine m_by t_slices_IndexFunc_api_Ref_api_Ref (Gives_of rfl ?_)
  simp [e_slices_IndexFunc_api_Ref_api_Ref, l_slices_IndexFunc_api_Ref_api_Ref_0]
  refine V.loop (fun n : Nat => n ≤ (lst l).length ∧ ∀ x ∈ (lst l).take n, p x = false) (fun n => (mkL 19 .any [(0, slA 2 (fun t => AV.agg (GRef.C t)) l), (1, .fn g a b), (7, .int .i64 (lst l).length), (8, .int .i64 n)], h)) (fun n => (lst l).length - n) ?_ 0 ⟨Nat.zero_le _, by simp⟩ ?_
  · rintro n ⟨hn, hx⟩
    by_cases h1 : n < (lst l).length
    · obtain ⟨x, hxe⟩ : ∃ x, (lst l)[n] = x := ⟨_, rfl⟩
      have hw := hp x (by rw [← hxe]; exact List.getElem_mem h1)
      by_cases hd : p x = true
      · rw [hd] at hw
        have e1 := idxI_at h1 hx (by rw [hxe]; exact hd)
        simp (disch := omega) [ha, hb, hxe, hw, e1]
      · have hd' : p x = false := by simpa using hd
        rw [hd'] at hw
        simp (disch := omega) [ha, hb, hxe, hw]
        refine ⟨n + 1, ⟨by omega, ?_⟩, by omega, by simp⟩
        rw [List.take_succ_eq_append_getElem h1, hxe]
        intro c hc
        rcases List.mem_append.1 hc with hc | hc
        · exact hx c hc
        · rw [List.mem_singleton.1 hc]; exact hd'
    · have e1 := idxI_none (p := p) (l := lst l) (by rw [List.take_of_length_le (by omega)] at hx; exact hx)
      simp (disch := omega) [ha, hb, e1]
  · simp
theorem m_ContainsFunc_Ref {l : Sl GRef} {g : Nat} {a b : List AV} {p : GRef → Bool} {h : Store} (hl : (lst l).length < 2 ^ 62) (ha : a.map AV.untip = a) (hb : b.map AV.untip = b) (hp : ∀ x ∈ lst l, Cm.m g (a ++ .agg (GRef.C x) :: b) h = some (.bool (p x), h)) :
    Cm.m f_slices_ContainsFunc_api_Ref_api_Ref [slA 2 (fun t => AV.agg (GRef.C t)) l, .fn g a b] h = some (.bool ((lst l).any p), h) := by
  have h1 := m_IndexFunc_Ref hl ha hb hp
  refine m_by t_slices_ContainsFunc_api_Ref_api_Ref (Gives_of rfl ?_)
  have h2 := idxI_any p (lst l)
  simp (disch := omega) [e_slices_ContainsFunc_api_Ref_api_Ref, h1, ha, hb, ← h2]

theorem m_IndexFunc_Facet {l : Sl GFacet} {g : Nat} {a b : List AV} {p : GFacet → Bool} {h : Store} (hl : (lst l).length < 2 ^ 62) (ha : a.map AV.untip = a) (hb : b.map AV.untip = b) (hp : ∀ x ∈ lst l, Cm.m g (a ++ .agg (GFacet.C x) :: b) h = some (.bool (p x), h)) :
    Cm.m f_slices_IndexFunc_api_Facet_api_Facet [slA 14 (fun t => AV.agg (GFacet.C t)) l, .fn g a b] h = some (.int .i64 (idxI p (lst l)), h) := by
  refine m_by t_slices_IndexFunc_api_Facet_api_Facet (Gives_of rfl ?_)
  simp [e_slices_IndexFunc_api_Facet_api_Facet, l_slices_IndexFunc_api_Facet_api_Facet_0]
  refine V.loop (fun n : Nat => n ≤ (lst l).length ∧ ∀ x ∈ (lst l).take n, p x = false) (fun n => (mkL 19 .any [(0, slA 14 (fun t => AV.agg (GFacet.C t)) l), (1, .fn g a b), (7, .int .i64 (lst l).length), (8, .int .i64 n)], h)) (fun n => (lst l).length - n) ?_ 0 ⟨Nat.zero_le _, by simp⟩ ?_
  · rintro n ⟨hn, hx⟩
    by_cases h1 : n < (lst l).length
    · obtain ⟨x, hxe⟩ : ∃ x, (lst l)[n] = x := ⟨_, rfl⟩
      have hw := hp x (by rw [← hxe]; exact List.getElem_mem h1)
      by_cases hd : p x = true
      · rw [hd] at hw
        have e1 := idxI_at h1 hx (by rw [hxe]; exact hd)
        simp (disch := omega) [ha, hb, hxe, hw, e1]
      · have hd' : p x = false := by simpa using hd
        rw [hd'] at hw
        simp (disch := omega) [ha, hb, hxe, hw]
        refine ⟨n + 1, ⟨by omega, ?_⟩, by omega, by simp⟩
        rw [List.take_succ_eq_append_getElem h1, hxe]
        intro c hc
        rcases List.mem_append.1 hc with hc | hc
        · exact hx c hc
        · rw [List.mem_singleton.1 hc]; exact hd'
    · have e1 := idxI_none (p := p) (l := lst l) (by rw [List.take_of_length_le (by omega)] at hx; exact hx)
      simp (disch := omega) [ha, hb, e1]
  · simp
theorem m_ContainsFunc_Facet {l : Sl GFacet} {g : Nat} {a b : List AV} {p : GFacet → Bool} {h : Store} (hl : (lst l).length < 2 ^ 62) (ha : a.map AV.untip = a) (hb : b.map AV.untip = b) (hp : ∀ x ∈ lst l, Cm.m g (a ++ .agg (GFacet.C x) :: b) h = some (.bool (p x), h)) :
    Cm.m f_slices_ContainsFunc_api_Facet_api_Facet [slA 14 (fun t => AV.agg (GFacet.C t)) l, .fn g a b] h = some (.bool ((lst l).any p), h) := by
  have h1 := m_IndexFunc_Facet hl ha hb hp
  refine m_by t_slices_ContainsFunc_api_Facet_api_Facet (Gives_of rfl ?_)
  have h2 := idxI_any p (lst l)
  simp (disch := omega) [e_slices_ContainsFunc_api_Facet_api_Facet, h1, ha, hb, ← h2]

theorem m_IndexFunc_Tier {l : Sl GTier} {g : Nat} {a b : List AV} {p : GTier → Bool} {h : Store} (hl : (lst l).length < 2 ^ 62) (ha : a.map AV.untip = a) (hb : b.map AV.untip = b) (hp : ∀ x ∈ lst l, Cm.m g (a ++ .agg (GTier.C x) :: b) h = some (.bool (p x), h)) :
    Cm.m f_slices_IndexFunc_api_Tier_api_Tier [slA 46 (fun t => AV.agg (GTier.C t)) l, .fn g a b] h = some (.int .i64 (idxI p (lst l)), h) := by
  refine m_by t_slices_IndexFunc_api_Tier_api_Tier (Gives_of rfl ?_)
  simp [e_slices_IndexFunc_api_Tier_api_Tier, l_slices_IndexFunc_api_Tier_api_Tier_0]
  refine V.loop (fun n : Nat => n ≤ (lst l).length ∧ ∀ x ∈ (lst l).take n, p x = false) (fun n => (mkL 19 .any [(0, slA 46 (fun t => AV.agg (GTier.C t)) l), (1, .fn g a b), (7, .int .i64 (lst l).length), (8, .int .i64 n)], h)) (fun n => (lst l).length - n) ?_ 0 ⟨Nat.zero_le _, by simp⟩ ?_
  · rintro n ⟨hn, hx⟩
    by_cases h1 : n < (lst l).length
    · obtain ⟨x, hxe⟩ : ∃ x, (lst l)[n] = x := ⟨_, rfl⟩
      have hw := hp x (by rw [← hxe]; exact List.getElem_mem h1)
      by_cases hd : p x = true
      · rw [hd] at hw
        have e1 := idxI_at h1 hx (by rw [hxe]; exact hd)
        simp (disch := omega) [ha, hb, hxe, hw, e1]
      · have hd' : p x = false := by simpa using hd
        rw [hd'] at hw
        simp (disch := omega) [ha, hb, hxe, hw]
        refine ⟨n + 1, ⟨by omega, ?_⟩, by omega, by simp⟩
        rw [List.take_succ_eq_append_getElem h1, hxe]
        intro c hc
        rcases List.mem_append.1 hc with hc | hc
        · exact hx c hc
        · rw [List.mem_singleton.1 hc]; exact hd'
    · have e1 := idxI_none (p := p) (l := lst l) (by rw [List.take_of_length_le (by omega)] at hx; exact hx)
      simp (disch := omega) [ha, hb, e1]
  · simp
theorem m_ContainsFunc_Tier {l : Sl GTier} {g : Nat} {a b : List AV} {p : GTier → Bool} {h : Store} (hl : (lst l).length < 2 ^ 62) (ha : a.map AV.untip = a) (hb : b.map AV.untip = b) (hp : ∀ x ∈ lst l, Cm.m g (a ++ .agg (GTier.C x) :: b) h = some (.bool (p x), h)) :
    Cm.m f_slices_ContainsFunc_api_Tier_api_Tier [slA 46 (fun t => AV.agg (GTier.C t)) l, .fn g a b] h = some (.bool ((lst l).any p), h) := by
  have h1 := m_IndexFunc_Tier hl ha hb hp
  refine m_by t_slices_ContainsFunc_api_Tier_api_Tier (Gives_of rfl ?_)
  have h2 := idxI_any p (lst l)
  simp (disch := omega) [e_slices_ContainsFunc_api_Tier_api_Tier, h1, ha, hb, ← h2]

theorem m_IndexFunc_int {l : Sl Int} {g : Nat} {a b : List AV} {p : Int → Bool} {h : Store} (hl : (lst l).length < 2 ^ 62) (ha : a.map AV.untip = a) (hb : b.map AV.untip = b) (hp : ∀ x ∈ lst l, Cm.m g (a ++ .int .i64 x :: b) h = some (.bool (p x), h)) :
    Cm.m f_slices_IndexFunc_int_int [slA 1 i64A l, .fn g a b] h = some (.int .i64 (idxI p (lst l)), h) := by
  refine m_by t_slices_IndexFunc_int_int (Gives_of rfl ?_)
  simp [e_slices_IndexFunc_int_int, l_slices_IndexFunc_int_int_0]
  refine V.loop (fun n : Nat => n ≤ (lst l).length ∧ ∀ x ∈ (lst l).take n, p x = false) (fun n => (mkL 19 .any [(0, slA 1 i64A l), (1, .fn g a b), (7, .int .i64 (lst l).length), (8, .int .i64 n)], h)) (fun n => (lst l).length - n) ?_ 0 ⟨Nat.zero_le _, by simp⟩ ?_
  · rintro n ⟨hn, hx⟩
    by_cases h1 : n < (lst l).length
    · obtain ⟨x, hxe⟩ : ∃ x, (lst l)[n] = x := ⟨_, rfl⟩
      have hw := hp x (by rw [← hxe]; exact List.getElem_mem h1)
      by_cases hd : p x = true
      · rw [hd] at hw
        have e1 := idxI_at h1 hx (by rw [hxe]; exact hd)
        simp (disch := omega) [ha, hb, hxe, hw, e1]
      · have hd' : p x = false := by simpa using hd
        rw [hd'] at hw
        simp (disch := omega) [ha, hb, hxe, hw]
        refine ⟨n + 1, ⟨by omega, ?_⟩, by omega, by simp⟩
        rw [List.take_succ_eq_append_getElem h1, hxe]
        intro c hc
        rcases List.mem_append.1 hc with hc | hc
        · exact hx c hc
        · rw [List.mem_singleton.1 hc]; exact hd'
    · have e1 := idxI_none (p := p) (l := lst l) (by rw [List.take_of_length_le (by omega)] at hx; exact hx)
      simp (disch := omega) [ha, hb, e1]
  · simp
theorem m_ContainsFunc_int {l : Sl Int} {g : Nat} {a b : List AV} {p : Int → Bool} {h : Store} (hl : (lst l).length < 2 ^ 62) (ha : a.map AV.untip = a) (hb : b.map AV.untip = b) (hp : ∀ x ∈ lst l, Cm.m g (a ++ .int .i64 x :: b) h = some (.bool (p x), h)) :
    Cm.m f_slices_ContainsFunc_int_int [slA 1 i64A l, .fn g a b] h = some (.bool ((lst l).any p), h) := by
  have h1 := m_IndexFunc_int hl ha hb hp
  refine m_by t_slices_ContainsFunc_int_int (Gives_of rfl ?_)
  have h2 := idxI_any p (lst l)
  simp (disch := omega) [e_slices_ContainsFunc_int_int, h1, ha, hb, ← h2]
end Go.Proofs.YteaopgkajbfkeaaGreatDoor
namespace Go.Proofs.YteaopgkajbfkeaaGreatDoor
open Go

def int0 : GInt := ⟨false, []⟩
def num0 : GNum := ⟨⟨int0, int0, int0, int0⟩, int0⟩
def vec0 : GVec := ⟨num0, num0, num0⟩
def fix0 : GFix := ⟨0, num0, vec0, none⟩
def tier0 : GTier := ⟨[], 0, 0, none, fix0⟩
def design0 : GDesign := ⟨[], 0, false, none⟩
def facet0 : GFacet := ⟨[], ⟨0, 0, 0⟩, num0⟩
@[simp] theorem zeroTier : z_api_Tier.map KV.av = GTier.C tier0 := rfl
@[simp] theorem zeroTier_len : z_api_Tier.length = 46 := rfl
@[simp] theorem zeroDesign : z_api_Design.map KV.av = GDesign.C design0 := rfl
@[simp] theorem zeroDesign_len : z_api_Design.length = 4 := rfl
@[simp] theorem zeroFacet : z_api_Facet.map KV.av = GFacet.C facet0 := rfl
@[simp] theorem zeroFacet_len : z_api_Facet.length = 14 := rfl
@[simp] theorem zeroVec : z_api_Vec.map KV.av = GVec.C vec0 := rfl
@[simp] theorem zeroVec_len : z_api_Vec.length = 30 := rfl
@[simp] theorem zeroNum' : z_api_Num.map KV.av = GNum.C num0 := rfl

def fewB (x : GNum) : Bool := decide (x.d.mag.length ≤ 200) && decide (x.c.a0.mag.length ≤ 200) && decide (x.c.a1.mag.length ≤ 200) && decide (x.c.a2.mag.length ≤ 200) && decide (x.c.a3.mag.length ≤ 200)
theorem q_few (x : GNum) : Cm.q f_culetref15_few [.agg (GNum.C x)] = some (.bool (fewB x)) := by
  refine q_by t_culetref15_few (Gives_of rfl ?_)
  by_cases h0 : x.d.mag.length ≤ 200 <;> simp (disch := omega) [e_culetref15_few, fewB, h0]
  by_cases h1 : x.c.a0.mag.length ≤ 200 <;> simp (disch := omega) [h1]
  by_cases h2 : x.c.a1.mag.length ≤ 200 <;> simp (disch := omega) [h2]
  by_cases h3 : x.c.a2.mag.length ≤ 200 <;> simp (disch := omega) [h3]
  by_cases h4 : x.c.a3.mag.length ≤ 200 <;> simp (disch := omega) [h0, h1, h2, h3, h4] <;> omega

def fewFixB (f : GFix) : Bool := (lst f.refs).all (fun r => decide (r.tier.length ≤ 60)) && decide ((lst f.refs).length ≤ 5) && fewB f.depth && fewB f.point.x && fewB f.point.y && fewB f.point.z

theorem all_false_at {α : Type} {p : α → Bool} {l : List α} {n : Nat} (hn : n < l.length) (hx : p l[n] = false) : l.all p = false := by
  rw [List.all_eq_false]; exact ⟨l[n], List.getElem_mem hn, by simp [hx]⟩

set_option maxHeartbeats 1000000 in
theorem q_FewFix (f : GFix) (hl : (lst f.refs).length < 2 ^ 62) : Cm.q f_culetref15_FewFix [.agg (GFix.C f)] = some (.bool (fewFixB f)) := by
  refine q_by t_culetref15_FewFix (Gives_of rfl ?_)
  have k1 := q_few f.depth
  have k2 := q_few f.point.x
  have k3 := q_few f.point.y
  have k4 := q_few f.point.z
  simp [e_culetref15_FewFix, l_culetref15_FewFix_0]
  refine V.loop (fun n : Nat => n ≤ (lst f.refs).length ∧ ∀ x ∈ (lst f.refs).take n, decide (x.tier.length ≤ 60) = true) (fun n => (mkL 46 .any [(1, .ref 0 0), (3, .int .i64 n)], [⟨GFix.C f, 1, false, false⟩])) (fun n => (lst f.refs).length - n) ?_ 0 ⟨Nat.zero_le _, by simp⟩ ?_
  · rintro n ⟨hn, ha⟩
    by_cases h1 : n < (lst f.refs).length
    · obtain ⟨x, hx⟩ : ∃ x, (lst f.refs)[n] = x := ⟨_, rfl⟩
      by_cases hd : x.tier.length ≤ 60
      · simp (disch := omega) [hx]
        refine ⟨n + 1, ⟨by omega, ?_⟩, by omega, by simp⟩
        rw [List.take_succ_eq_append_getElem h1, hx]
        intro c hc
        rcases List.mem_append.1 hc with hc | hc
        · simpa using ha c hc
        · rw [List.mem_singleton.1 hc]; exact hd
      · have e1 : fewFixB f = false := by simp only [fewFixB, all_false_at h1 (p := fun r => decide (r.tier.length ≤ 60)) (by rw [hx]; simpa using hd), Bool.false_and]
        simp (disch := omega) [hx, e1]
    · have ht : (lst f.refs).all (fun r => decide (r.tier.length ≤ 60)) = true := by
        rw [List.all_eq_true]; rw [List.take_of_length_le (by omega)] at ha; exact ha
      have e1 : fewFixB f = (decide ((lst f.refs).length ≤ 5) && fewB f.depth && fewB f.point.x && fewB f.point.y && fewB f.point.z) := by simp only [fewFixB, ht, Bool.true_and]
      generalize fewB f.depth = b1 at *
      generalize fewB f.point.x = b2 at *
      generalize fewB f.point.y = b3 at *
      generalize fewB f.point.z = b4 at *
      by_cases h5 : (lst f.refs).length ≤ 5
      · cases b1 <;> cases b2 <;> cases b3 <;> cases b4 <;> simp (disch := omega) [e1, h5, k1, k2, k3, k4]
      · simp (disch := omega) [e1, h5]
  · simp

def fewTier (t : GTier) : Bool := decide (t.name.length ≤ 60) && decide ((lst t.indices).length ≤ 26) && fewFixB t.fix
def fewD (d : GDesign) : Bool := decide (d.name.length ≤ 60) && decide ((lst d.tiers).length ≤ 22) && (lst d.tiers).all fewTier

set_option maxHeartbeats 1000000 in
theorem q_Few (d : GDesign) (hr : ∀ t ∈ lst d.tiers, (lst t.fix.refs).length < 2 ^ 62) : Cm.q f_culetref15_Few [.agg (GDesign.C d)] = some (.bool (fewD d)) := by
  refine q_by t_culetref15_Few (Gives_of rfl ?_)
  by_cases c1 : d.name.length ≤ 60
  · by_cases c2 : (lst d.tiers).length ≤ 22
    · simp (disch := omega) [e_culetref15_Few, l_culetref15_Few_0]
      refine V.loop (fun s : Nat × Store => s.1 ≤ (lst d.tiers).length ∧ (∀ x ∈ (lst d.tiers).take s.1, fewTier x = true) ∧ getB s.2 0 = some ⟨GDesign.C d, 1, false, false⟩) (fun s => (mkL 43 .any [(1, .ref 0 0), (3, .int .i64 s.1)], s.2)) (fun s => (lst d.tiers).length - s.1) ?_ (0, [⟨GDesign.C d, 1, false, false⟩]) ⟨Nat.zero_le _, by simp, by simp⟩ ?_
      · rintro ⟨n, h⟩ ⟨hn, ha, k0⟩
        dsimp only at hn ha k0
        have hl0 := lt_of_getB k0
        have kx : ∀ J, getB (h ++ J) 0 = some ⟨GDesign.C d, 1, false, false⟩ := fun J => getB_app_some k0
        by_cases h1 : n < (lst d.tiers).length
        · obtain ⟨x, hx⟩ : ∃ x, (lst d.tiers)[n] = x := ⟨_, rfl⟩
          have kf := q_FewFix x.fix (hr x (by rw [← hx]; exact List.getElem_mem h1))
          by_cases hd : fewTier x = true
          · have h2 := hd
            simp [fewTier] at h2
            obtain ⟨⟨d1, d2⟩, d3⟩ := h2
            simp (disch := omega) [hx, kf, d3, k0, kx]
            refine ⟨n + 1, h ++ [⟨GTier.C x, 1, false, false⟩], ⟨by omega, ?_, kx _⟩, by omega, by simp⟩
            rw [List.take_succ_eq_append_getElem h1, hx]
            intro c hc
            rcases List.mem_append.1 hc with hc | hc
            · exact ha c hc
            · rw [List.mem_singleton.1 hc]; exact hd
          · have hd' : fewTier x = false := by simpa using hd
            have e1 : fewD d = false := by simp only [fewD, all_false_at h1 (p := fewTier) (by rw [hx]; exact hd'), Bool.and_false]
            by_cases d1 : x.name.length ≤ 60
            · by_cases d2 : (lst x.indices).length ≤ 26
              · have d3 : fewFixB x.fix = false := by simpa [fewTier, d1, d2] using hd'
                simp (disch := omega) [hx, kf, d3, e1, k0, kx]
              · simp (disch := omega) [hx, e1, k0, kx]
            · simp (disch := omega) [hx, e1, k0, kx]
        · have ht : (lst d.tiers).all fewTier = true := by
            rw [List.all_eq_true]; rw [List.take_of_length_le (by omega)] at ha; exact ha
          have e1 : fewD d = true := by simp [fewD, ht, c1, c2]
          simp (disch := omega) [e1, k0]
      · simp
    · simp (disch := omega) [e_culetref15_Few, fewD, c1, c2]
  · simp (disch := omega) [e_culetref15_Few, fewD, c1]
end Go.Proofs.YteaopgkajbfkeaaGreatDoor
namespace Go.Proofs.YteaopgkajbfkeaaGreatDoor
open Go

def shortB (n : Int) : Bool := decide (-999999 ≤ n) && decide (n ≤ 999999)
def refOK (r : GRef) : Bool := isName r.tier && shortB r.index
def refsB (l : List GRef) (n : Nat) : Bool := decide (l.length = n) && l.all refOK
def validV (p : GVec) : Bool := validN p.x && validN p.y && validN p.z
def canFixB (f : GFix) : Bool :=
  if f.kind = 1 then validN f.depth && decide (f.point = vec0) && decide ((lst f.refs).length = 0)
  else if f.kind = 2 then decide (f.depth = num0) && decide (f.point = vec0) && refsB (lst f.refs) 3
  else if f.kind = 3 then validN f.depth && decide (f.point = vec0) && refsB (lst f.refs) 2
  else if f.kind = 4 then decide (f.depth = num0) && validV f.point && decide ((lst f.refs).length = 0)
  else false

theorem q_short (n : Int) : Cm.q f_format_short [.int .i64 n] = some (.bool (shortB n)) := by
  refine q_by t_format_short (Gives_of rfl ?_)
  by_cases h1 : -999999 ≤ n <;> by_cases h2 : n ≤ 999999 <;> first | (exfalso; omega) | simp (disch := omega) [e_format_short, shortB, h1, h2]

theorem m_refs1 (r : GRef) (hr : r.tier.length < 2 ^ 62) (h : Store) : Cm.m f_format_refs_1 [.agg (GRef.C r)] h = some (.bool (!refOK r), h) := by
  refine m_by t_format_refs_1 (Gives_of rfl ?_)
  have h1 := q_IsName r.tier hr
  have h2 := q_short r.index
  simp only [refOK]
  generalize isName r.tier = b1 at *
  generalize shortB r.index = b2 at *
  cases b1 <;> cases b2 <;> simp (disch := omega) [e_format_refs_1, h1, h2]

theorem q_refs (l : Sl GRef) (n : Nat) (hl : (lst l).length < 2 ^ 62) (hr : ∀ r ∈ lst l, r.tier.length < 2 ^ 62) : Cm.q f_format_refs [slA 2 (fun t => AV.agg (GRef.C t)) l, .int .i64 n] = some (.bool (refsB (lst l) n)) := by
  refine q_by t_format_refs (Gives_of rfl ?_)
  have h1 := fun h => m_ContainsFunc_Ref (l := l) (g := f_format_refs_1) (a := []) (b := []) (p := fun r => !refOK r) (h := h) hl rfl rfl (fun r hx => m_refs1 r (hr r hx) h)
  have h2 : refsB (lst l) n = (decide ((lst l).length = n) && !((lst l).any fun r => !refOK r)) := by
    simp only [refsB]; congr 1; simp [List.not_any_eq_all_not]
  rw [h2]
  generalize (lst l).any (fun r => !refOK r) = B at *
  by_cases c1 : (lst l).length = n
  · simp (disch := omega) [e_format_refs, c1, h1]
  · simp (disch := omega) [e_format_refs, c1]

structure GVec.L (n : Nat) (v : GVec) : Prop where
  hx : v.x.L n
  hy : v.y.L n
  hz : v.z.L n

theorem q_valid (p : GVec) (hp : GVec.L 200 p) : Cm.q f_format_valid [.agg (GVec.C p)] = some (.bool (validV p)) := by
  refine q_by t_format_valid (Gives_of rfl ?_)
  have h1 := q_field_Valid _ hp.hx (by omega)
  have h2 := q_field_Valid _ hp.hy (by omega)
  have h3 := q_field_Valid _ hp.hz (by omega)
  simp only [validV]
  generalize validN p.x = b1 at *
  generalize validN p.y = b2 at *
  generalize validN p.z = b3 at *
  simp only [numA] at *
  cases b1 <;> cases b2 <;> cases b3 <;> simp (disch := omega) [e_format_valid, h1, h2, h3]

structure GFix.L (f : GFix) : Prop where
  d : GNum.L 200 f.depth
  p : GVec.L 200 f.point
  n : (lst f.refs).length < 2 ^ 62
  r : ∀ r ∈ lst f.refs, r.tier.length < 2 ^ 62

theorem num0_fold : (⟨⟨⟨false, []⟩, ⟨false, []⟩, ⟨false, []⟩, ⟨false, []⟩⟩, ⟨false, []⟩⟩ : GNum) = num0 := rfl

set_option maxHeartbeats 1000000 in
theorem q_canFix (f : GFix) (hf : GFix.L f) : Cm.q f_format_canFix [.agg (GFix.C f)] = some (.bool (canFixB f)) := by
  refine q_by t_format_canFix (Gives_of rfl ?_)
  have h1 := q_field_Valid _ hf.d (by omega)
  have h2 := q_valid _ hf.p
  have h3 : Cm.q f_format_refs [slA 2 (fun t => AV.agg (GRef.C t)) f.refs, .int .i64 3] = _ := q_refs f.refs 3 hf.n hf.r
  have h4 : Cm.q f_format_refs [slA 2 (fun t => AV.agg (GRef.C t)) f.refs, .int .i64 2] = _ := q_refs f.refs 2 hf.n hf.r
  simp only [canFixB]
  simp only [numA] at *
  generalize validN f.depth = b1 at *
  generalize validV f.point = b2 at *
  generalize refsB (lst f.refs) 3 = b3 at *
  generalize refsB (lst f.refs) 2 = b4 at *
  by_cases k1 : f.kind = 1
  · cases b1
    · simp (disch := omega) [e_format_canFix, num0_fold, k1, h1]
    · by_cases k2 : f.point = vec0
      · by_cases k3 : (lst f.refs).length = 0 <;> simp (disch := omega) [e_format_canFix, num0_fold, k1, h1, k2, k3]
      · simp (disch := omega) [e_format_canFix, num0_fold, k1, h1, k2]
  · by_cases k2 : f.kind = 2
    · by_cases k3 : f.depth = num0
      · by_cases k4 : f.point = vec0 <;> simp (disch := omega) [e_format_canFix, num0_fold, k2, k3, k4, h3]
      · simp (disch := omega) [e_format_canFix, num0_fold, k2, k3]
    · by_cases k3 : f.kind = 3
      · cases b1
        · simp (disch := omega) [e_format_canFix, num0_fold, k3, h1]
        · by_cases k4 : f.point = vec0 <;> simp (disch := omega) [e_format_canFix, num0_fold, k3, h1, k4, h4]
      · by_cases k4 : f.kind = 4
        · by_cases k5 : f.depth = num0
          · cases b2
            · simp (disch := omega) [e_format_canFix, num0_fold, k4, k5, h2]
            · by_cases k6 : (lst f.refs).length = 0 <;> simp (disch := omega) [e_format_canFix, num0_fold, k4, k5, k6, h2]
          · simp (disch := omega) [e_format_canFix, num0_fold, k4, k5]
        · simp (disch := omega) [e_format_canFix, num0_fold, k1, k2, k3, k4]
end Go.Proofs.YteaopgkajbfkeaaGreatDoor
