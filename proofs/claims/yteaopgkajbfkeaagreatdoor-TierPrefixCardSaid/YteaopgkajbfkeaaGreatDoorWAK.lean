/- Numbers and their digits to a base, in plain Lean: nothing of a program. Digits of a given number of places, comparing, and a digit of a long division (Knuth), in plain Lean: nothing of a program. Numbers in decimal, in plain Lean: nothing of a program. -/
import Derived.IntWalk
set_option linter.unusedSimpArgs false
set_option linter.unusedVariables false
namespace Go.Proofs.YteaopgkajbfkeaaGreatDoor

/-- The number that digits stand for, the least one first. -/
def valB (b : Nat) : List Nat → Nat
  | [] => 0
  | d :: l => d + b * valB b l

/-- The digits of a number, the least one first. -/
def digB (b : Nat) (n : Nat) : List Nat := if h : n = 0 ∨ b ≤ 1 then [] else n % b :: digB b (n / b)
  termination_by n
  decreasing_by exact Nat.div_lt_self (by omega) (by omega)

theorem digB_zero (b : Nat) : digB b 0 = [] := by unfold digB; simp
theorem digB_pos {b n : Nat} (hb : 1 < b) (hn : n ≠ 0) : digB b n = n % b :: digB b (n / b) := by
  rw [digB]; rw [dif_neg (by omega)]

@[simp] theorem valB_nil (b : Nat) : valB b [] = 0 := rfl
@[simp] theorem valB_cons (b d : Nat) (l : List Nat) : valB b (d :: l) = d + b * valB b l := rfl
theorem valB_append (b : Nat) : ∀ l m : List Nat, valB b (l ++ m) = valB b l + b ^ l.length * valB b m
  | [], m => by simp
  | d :: l, m => by
    simp only [List.cons_append, valB_cons, valB_append b l m, List.length_cons, Nat.pow_succ, Nat.mul_add]
    rw [Nat.mul_comm (b ^ l.length) b, Nat.mul_assoc]; omega
theorem valB_snoc (b : Nat) (l : List Nat) (d : Nat) : valB b (l ++ [d]) = valB b l + b ^ l.length * d := by simp [valB_append]

/-- All digits are less than the base. -/
def Dg (b : Nat) (l : List Nat) : Prop := ∀ d ∈ l, d < b
theorem Dg.nil {b : Nat} : Dg b [] := by simp [Dg]
theorem Dg.cons {b d : Nat} {l : List Nat} (h : d < b) (hl : Dg b l) : Dg b (d :: l) := by
  intro x hx; rcases List.mem_cons.1 hx with rfl | hx
  · exact h
  · exact hl x hx
theorem Dg.head {b d : Nat} {l : List Nat} (h : Dg b (d :: l)) : d < b := h d (by simp)
theorem Dg.tail {b d : Nat} {l : List Nat} (h : Dg b (d :: l)) : Dg b l := fun x hx => h x (by simp [hx])
theorem Dg.append {b : Nat} {l m : List Nat} (h : Dg b l) (h' : Dg b m) : Dg b (l ++ m) := by
  intro x hx; rcases List.mem_append.1 hx with hx | hx
  · exact h x hx
  · exact h' x hx
theorem Dg.take {b : Nat} {l : List Nat} (h : Dg b l) (n : Nat) : Dg b (l.take n) := fun x hx => h x (List.mem_of_mem_take hx)
theorem Dg.drop {b : Nat} {l : List Nat} (h : Dg b l) (n : Nat) : Dg b (l.drop n) := fun x hx => h x (List.mem_of_mem_drop hx)
theorem Dg.set {b d : Nat} {l : List Nat} (h : Dg b l) (hd : d < b) (n : Nat) : Dg b (l.set n d) := by
  intro x hx
  rcases List.mem_or_eq_of_mem_set hx with hx | rfl
  · exact h x hx
  · exact hd
theorem Dg.get {b : Nat} {l : List Nat} (h : Dg b l) {n : Nat} (hn : n < l.length) : l[n] < b := h _ (List.getElem_mem hn)
theorem Dg.replicate {b n : Nat} (hb : 0 < b) : Dg b (List.replicate n 0) := by
  intro x hx; rw [List.eq_of_mem_replicate hx]; exact hb

theorem valB_lt {b : Nat} : ∀ {l : List Nat}, Dg b l → valB b l < b ^ l.length
  | [], _ => by simp
  | d :: l, h => by
    have h1 := h.head
    have h2 := valB_lt h.tail
    simp only [valB_cons, List.length_cons, Nat.pow_succ]
    have : b * (valB b l + 1) ≤ b * b ^ l.length := Nat.mul_le_mul_left _ h2
    rw [Nat.mul_add] at this
    rw [Nat.mul_comm (b ^ l.length) b]; omega

theorem digB_dg {b : Nat} (hb : 1 < b) (n : Nat) : Dg b (digB b n) := by
  induction n using Nat.strongRecOn with
  | _ n ih =>
    by_cases hn : n = 0
    · subst hn; rw [digB_zero]; exact .nil
    · rw [digB_pos hb hn]
      exact .cons (Nat.mod_lt _ (by omega)) (ih _ (Nat.div_lt_self (by omega) hb))

theorem valB_digB {b : Nat} (hb : 1 < b) (n : Nat) : valB b (digB b n) = n := by
  induction n using Nat.strongRecOn with
  | _ n ih =>
    by_cases hn : n = 0
    · subst hn; rw [digB_zero]; rfl
    · rw [digB_pos hb hn, valB_cons, ih _ (Nat.div_lt_self (by omega) hb)]
      exact Nat.mod_add_div n b

/-- Without zeros at the end. -/
def rstrip (l : List Nat) : List Nat := (l.reverse.dropWhile (· == 0)).reverse
@[simp] theorem rstrip_nil : rstrip [] = [] := rfl
theorem rstrip_zero (l : List Nat) : rstrip (l ++ [0]) = rstrip l := by simp [rstrip]
theorem rstrip_pos {l : List Nat} {x : Nat} (h : x ≠ 0) : rstrip (l ++ [x]) = l ++ [x] := by simp [rstrip, h]
theorem rstrip_length_le (l : List Nat) : (rstrip l).length ≤ l.length := by
  simp only [rstrip, List.length_reverse]
  have := (List.dropWhile_sublist (· == 0) (l := l.reverse)).length_le
  simpa using this

theorem valB_rstrip (b : Nat) (l : List Nat) : valB b (rstrip l) = valB b l := by
  rcases List.eq_nil_or_concat l with rfl | ⟨m, x, rfl⟩
  · rfl
  · rw [List.concat_eq_append]
    by_cases hx : x = 0
    · subst hx
      rw [rstrip_zero, valB_rstrip b m, valB_snoc]; simp
    · rw [rstrip_pos hx]
  termination_by l.length
  decreasing_by all_goals (subst_vars; simp)

theorem rstrip_dg {b : Nat} {l : List Nat} (h : Dg b l) : Dg b (rstrip l) := by
  intro x hx
  apply h
  simp only [rstrip, List.mem_reverse] at hx
  exact List.mem_reverse.1 ((List.dropWhile_sublist _).mem hx)

/-- No zero at the end. -/
def Nz (l : List Nat) : Prop := ∀ x, l.getLast? = some x → x ≠ 0
theorem rstrip_nz (l : List Nat) : Nz (rstrip l) := by
  rcases List.eq_nil_or_concat l with rfl | ⟨m, x, rfl⟩
  · intro x hx; simp at hx
  · rw [List.concat_eq_append]
    by_cases hx : x = 0
    · subst hx; rw [rstrip_zero]; exact rstrip_nz m
    · rw [rstrip_pos hx]; intro y hy; simp at hy; omega
  termination_by l.length
  decreasing_by all_goals (subst_vars; simp)

theorem digB_nz {b : Nat} (hb : 1 < b) (n : Nat) : Nz (digB b n) := by
  induction n using Nat.strongRecOn with
  | _ n ih =>
    by_cases hn : n = 0
    · subst hn; rw [digB_zero]; intro x hx; simp at hx
    · have h := ih (n / b) (Nat.div_lt_self (by omega) hb)
      rw [digB_pos hb hn]
      by_cases h0 : n / b = 0
      · rw [h0, digB_zero]
        intro x hx
        simp at hx
        have := Nat.mod_add_div n b
        rw [h0] at this
        simp at this
        omega
      · rw [digB_pos hb h0] at h ⊢
        intro x hx
        rw [List.getLast?_cons_cons] at hx
        exact h x hx

/-- Digits are determined by the number. -/
theorem dig_unique {b : Nat} (hb : 1 < b) : ∀ {l : List Nat}, Dg b l → Nz l → l = digB b (valB b l)
  | [], _, _ => by rw [valB_nil, digB_zero]
  | d :: l, h, hz => by
    have h1 := h.head
    have hz2 : Nz l := by
      intro x hx
      cases l with
      | nil => simp at hx
      | cons y l => exact hz x (by rw [List.getLast?_cons_cons]; exact hx)
    have ih := dig_unique hb h.tail hz2
    have hne : d + b * valB b l ≠ 0 := by
      intro e
      have hd : d = 0 := by omega
      have hv : valB b l = 0 := by
        rcases Nat.eq_zero_or_pos (valB b l) with h | h
        · exact h
        · have : 1 * 1 ≤ b * valB b l := Nat.mul_le_mul (by omega) h
          omega
      rw [hv, digB_zero] at ih
      subst ih
      exact hz d (by simp) hd
    rw [valB_cons, digB_pos hb hne]
    have e1 : (d + b * valB b l) % b = d := by rw [Nat.add_mul_mod_self_left, Nat.mod_eq_of_lt h1]
    have e2 : (d + b * valB b l) / b = valB b l := by rw [Nat.add_mul_div_left _ _ (by omega), Nat.div_eq_of_lt h1, Nat.zero_add]
    rw [e1, e2, ← ih]

theorem rstrip_dig {b : Nat} (hb : 1 < b) {l : List Nat} (h : Dg b l) : rstrip l = digB b (valB b l) := by
  have := dig_unique hb (rstrip_dg h) (rstrip_nz l)
  rwa [valB_rstrip] at this

theorem digB_length_le {b : Nat} (hb : 1 < b) {n k : Nat} : (digB b n).length ≤ k ↔ n < b ^ k := by
  induction k generalizing n with
  | zero =>
    by_cases hn : n = 0
    · subst hn; simp [digB_zero]
    · rw [digB_pos hb hn]; simp; omega
  | succ k ih =>
    by_cases hn : n = 0
    · subst hn
      simp only [digB_zero, List.length_nil, Nat.zero_le, true_iff]
      exact Nat.pow_pos (by omega)
    · rw [digB_pos hb hn, List.length_cons, Nat.succ_le_succ_iff, ih, Nat.pow_succ, Nat.div_lt_iff_lt_mul (by omega)]

theorem digB_length_lt {b : Nat} (hb : 1 < b) {n k : Nat} : k < (digB b n).length ↔ b ^ k ≤ n := by
  have := digB_length_le hb (n := n) (k := k)
  omega

theorem digB_length_mono {b : Nat} (hb : 1 < b) {n m : Nat} (h : n ≤ m) : (digB b n).length ≤ (digB b m).length :=
  (digB_length_le hb).2 (Nat.lt_of_le_of_lt h ((digB_length_le hb).1 (Nat.le_refl _)))

theorem digB_eq_nil {b : Nat} (hb : 1 < b) {n : Nat} : digB b n = [] ↔ n = 0 := by
  constructor
  · intro h
    have := valB_digB hb n
    rw [h] at this; exact this.symm
  · rintro rfl; exact digB_zero b

theorem digB_inj {b : Nat} (hb : 1 < b) {n m : Nat} (h : digB b n = digB b m) : n = m := by
  rw [← valB_digB hb n, h, valB_digB hb m]

theorem digB_lt {b : Nat} {n : Nat} (hn : n ≠ 0) (h : n < b) : digB b n = [n] := by
  have hb : 1 < b := by omega
  rw [digB_pos hb hn, Nat.mod_eq_of_lt h, Nat.div_eq_of_lt h, digB_zero]

/-! ### The bytes of a number, the most significant one first -/

def mag (n : Nat) : List UInt8 := ((digB 256 n).map UInt8.ofNat).reverse
def ofMag (s : List UInt8) : Nat := valB 256 (s.reverse.map UInt8.toNat)
/-- No zero byte ahead. -/
def Lz (s : List UInt8) : Prop := ∀ x, s.head? = some x → x ≠ 0

@[simp] theorem mag_zero : mag 0 = [] := by simp [mag, digB_zero]
theorem mag_eq_nil {n : Nat} : mag n = [] ↔ n = 0 := by simp [mag, digB_eq_nil]
theorem dg_bytes (l : List UInt8) : Dg 256 (l.map UInt8.toNat) := by
  intro x hx
  obtain ⟨b, _, rfl⟩ := List.mem_map.1 hx
  exact b.toNat_lt
theorem map_ofNat_toNat : ∀ {l : List Nat}, Dg 256 l → (l.map UInt8.ofNat).map UInt8.toNat = l
  | [], _ => rfl
  | d :: l, h => by
    have := h.head
    simp only [List.map_cons, List.map_map] at *
    rw [UInt8.toNat_ofNat', Nat.mod_eq_of_lt (by omega)]
    congr 1
    have := map_ofNat_toNat h.tail
    rwa [List.map_map] at this
theorem ofMag_mag (n : Nat) : ofMag (mag n) = n := by
  simp only [ofMag, mag, List.reverse_reverse]
  rw [map_ofNat_toNat (digB_dg (by omega) n)]
  exact valB_digB (by omega) n
theorem mag_ofMag {s : List UInt8} (h : Lz s) : mag (ofMag s) = s := by
  simp only [ofMag, mag]
  rw [← dig_unique (by omega) (dg_bytes _)]
  · simp only [List.map_map, List.map_reverse, List.reverse_reverse]
    have : UInt8.ofNat ∘ UInt8.toNat = id := by funext x; simp
    rw [this, List.map_id]
  · intro x hx
    rw [List.getLast?_map] at hx
    simp only [Option.map_eq_some_iff] at hx
    obtain ⟨b, hb, rfl⟩ := hx
    rw [List.getLast?_reverse] at hb
    have := h b hb
    intro e
    apply this
    exact UInt8.toNat_inj.1 (by simpa using e)
theorem mag_lz (n : Nat) : Lz (mag n) := by
  intro x hx
  simp only [mag, List.head?_reverse, List.getLast?_map, Option.map_eq_some_iff] at hx
  obtain ⟨d, hd, rfl⟩ := hx
  have h1 := digB_nz (b := 256) (by omega) n d hd
  have h2 := digB_dg (b := 256) (by omega) n d (List.mem_of_getLast? hd)
  intro e
  have := congrArg UInt8.toNat e
  rw [UInt8.toNat_ofNat', Nat.mod_eq_of_lt (by omega)] at this
  exact h1 this
theorem mag_inj {n m : Nat} (h : mag n = mag m) : n = m := by rw [← ofMag_mag n, h, ofMag_mag]
theorem mag_length_le {n k : Nat} : (mag n).length ≤ k ↔ n < 256 ^ k := by simp only [mag, List.length_reverse, List.length_map]; exact digB_length_le (by omega)
theorem ofMag_lt (s : List UInt8) : ofMag s < 256 ^ s.length := by
  have := valB_lt (dg_bytes s.reverse)
  simpa [ofMag] using this
@[simp] theorem ofMag_nil : ofMag [] = 0 := rfl
theorem ofMag_cons (x : UInt8) (s : List UInt8) : ofMag (x :: s) = 256 ^ s.length * x.toNat + ofMag s := by
  simp [ofMag, valB_append]; omega
theorem ofMag_snoc (s : List UInt8) (x : UInt8) : ofMag (s ++ [x]) = x.toNat + 256 * ofMag s := by simp [ofMag]
theorem ofMag_eq_zero {s : List UInt8} (h : Lz s) : ofMag s = 0 ↔ s = [] := by
  constructor
  · intro e; have := mag_ofMag h; rw [e] at this; simpa using this.symm
  · rintro rfl; rfl

theorem ofMag_append (s t : List UInt8) : ofMag (s ++ t) = ofMag s * 256 ^ t.length + ofMag t := by
  simp only [ofMag, List.reverse_append, List.map_append, valB_append, List.length_map, List.length_reverse]
  rw [Nat.mul_comm, Nat.add_comm]
theorem mag_strip (s : List UInt8) : s.dropWhile (· == 0) = mag (ofMag s) := by
  have h1 : ofMag (s.dropWhile (· == 0)) = ofMag s := by
    induction s with
    | nil => rfl
    | cons x s ih =>
      by_cases hx : x = 0
      · subst hx
        simp only [List.dropWhile_cons, BEq.rfl, if_true]
        rw [ih, ofMag_cons]; simp
      · simp [hx]
  have h2 : Lz (s.dropWhile (· == 0)) := by
    intro x hx e
    subst e
    have := List.head?_dropWhile_not (· == 0) s
    rw [hx] at this
    simp at this
  rw [← mag_ofMag h2, h1]

/-! ### The number of binary digits -/

def blen (n : Nat) : Nat := if h : n = 0 then 0 else blen (n / 2) + 1
  termination_by n
  decreasing_by omega
@[simp] theorem blen_zero : blen 0 = 0 := by unfold blen; simp
theorem blen_pos {n : Nat} (h : n ≠ 0) : blen n = blen (n / 2) + 1 := by rw [blen, dif_neg h]
theorem blen_shift {n : Nat} : ∀ k : Nat, n / 2 ^ k ≠ 0 → blen n = blen (n / 2 ^ k) + k
  | 0, _ => by simp
  | k + 1, h => by
    rw [Nat.pow_succ, ← Nat.div_div_eq_div_mul] at h ⊢
    have h1 : n / 2 ^ k ≠ 0 := by intro e; rw [e] at h; simp at h
    rw [blen_shift k h1, blen_pos h1]; omega
theorem lt_blen (n : Nat) : n < 2 ^ blen n := by
  induction n using Nat.strongRecOn with
  | _ n ih =>
    by_cases h : n = 0
    · subst h; simp
    · have := ih (n / 2) (by omega)
      rw [blen_pos h, Nat.pow_succ]; omega
theorem blen_le {n k : Nat} : blen n ≤ k ↔ n < 2 ^ k := by
  induction k generalizing n with
  | zero =>
    by_cases h : n = 0
    · subst h; simp
    · rw [blen_pos h]; simp; omega
  | succ k ih =>
    by_cases h : n = 0
    · subst h; simp; exact Nat.pow_pos (by omega)
    · rw [blen_pos h, Nat.succ_le_succ_iff, ih, Nat.pow_succ]; omega
theorem pow_blen_le {n : Nat} (h : n ≠ 0) : 2 ^ (blen n - 1) ≤ n := by
  have := (blen_le (n := n) (k := blen n - 1))
  have h1 : blen n ≠ 0 := by rw [blen_pos h]; omega
  omega

end Go.Proofs.YteaopgkajbfkeaaGreatDoor
namespace Go.Proofs.YteaopgkajbfkeaaGreatDoor

/-! ### Places -/

theorem valB_split (b : Nat) (l : List Nat) (i : Nat) : valB b l = valB b (l.take i) + b ^ (l.take i).length * valB b (l.drop i) := by
  rw [← valB_append, List.take_append_drop]
theorem valB_split' {b : Nat} {l : List Nat} {i : Nat} (h : i ≤ l.length) : valB b l = valB b (l.take i) + b ^ i * valB b (l.drop i) := by
  have := valB_split b l i
  rwa [List.length_take, Nat.min_eq_left h] at this
theorem valB_drop {b : Nat} {l : List Nat} {i : Nat} (h : i < l.length) : valB b (l.drop i) = l[i] + b * valB b (l.drop (i + 1)) := by
  rw [List.drop_eq_getElem_cons h, valB_cons]

/-- The last n digits of a number. -/
def digN (b : Nat) : Nat → Nat → List Nat
  | 0, _ => []
  | n + 1, v => v % b :: digN b n (v / b)
@[simp] theorem digN_length (b : Nat) : ∀ n v, (digN b n v).length = n
  | 0, _ => rfl
  | n + 1, v => by simp [digN, digN_length b n]
theorem digN_dg {b : Nat} (hb : 0 < b) : ∀ n v, Dg b (digN b n v)
  | 0, _ => .nil
  | n + 1, v => .cons (Nat.mod_lt _ hb) (digN_dg hb n _)
theorem valB_digN {b : Nat} (hb : 0 < b) : ∀ n v, valB b (digN b n v) = v % b ^ n
  | 0, v => by simp [digN, Nat.mod_one]
  | n + 1, v => by
    rw [digN, valB_cons, valB_digN hb n, Nat.pow_succ, Nat.mul_comm (b ^ n) b, Nat.mod_mul]
theorem digN_valB {b : Nat} : ∀ {l : List Nat}, Dg b l → digN b l.length (valB b l) = l
  | [], _ => rfl
  | d :: l, h => by
    have h1 := h.head
    rw [List.length_cons, digN, valB_cons, Nat.add_mul_mod_self_left, Nat.mod_eq_of_lt h1, Nat.add_mul_div_left _ _ (by omega), Nat.div_eq_of_lt h1, Nat.zero_add, digN_valB h.tail]
theorem digN_of {b n : Nat} {l : List Nat} (h : Dg b l) (hl : l.length = n) : l = digN b n (valB b l) := by
  subst hl; exact (digN_valB h).symm
theorem digN_of_val {b n v : Nat} {l : List Nat} (h : Dg b l) (hl : l.length = n) (hv : valB b l = v) : l = digN b n v := by
  subst hv; exact digN_of h hl

/-- Lists of digits of one length compare like their numbers. -/
theorem valB_inj {b : Nat} {l m : List Nat} (hl : Dg b l) (hm : Dg b m) (he : l.length = m.length) (hv : valB b l = valB b m) : l = m := by
  rw [digN_of hl he, hv, digN_valB hm]

theorem valB_cmp {b : Nat} {l m : List Nat} (hl : Dg b l) (he : l.length = m.length) {i : Nat} (hi : i < l.length) (hi2 : i < m.length) (hd : l.drop (i + 1) = m.drop (i + 1)) (hlt : l[i] < m[i]) : valB b l < valB b m := by
  rw [valB_split' (l := l) (Nat.le_of_lt hi), valB_split' (l := m) (i := i) (Nat.le_of_lt hi2), valB_drop hi, valB_drop hi2, hd]
  have h1 : valB b (l.take i) < b ^ i := by
    have := valB_lt (hl.take i)
    rwa [List.length_take, Nat.min_eq_left (Nat.le_of_lt hi)] at this
  have h2 : b ^ i * (l[i] + 1) ≤ b ^ i * m[i] := Nat.mul_le_mul_left _ hlt
  rw [Nat.mul_add, Nat.mul_add]
  rw [Nat.mul_add] at h2
  omega

/-! ### A digit of a long division -/

/-- Where the guess stands: 'V = (vt * B + vs) * P + vr', 'U = ((u2 * B + u1) * B + u0) * P + ur'. -/
structure Guess (B P V U vt vs u2 u1 u0 : Nat) : Prop where
  half : B ≤ 2 * vt
  hvt : vt < B
  hvs : vs < B
  hu1 : u1 < B
  hu0 : u0 < B
  hP : 0 < P
  hv : ∃ vr, vr < P ∧ V = (vt * B + vs) * P + vr
  hu : ∃ ur, ur < P ∧ U = ((u2 * B + u1) * B + u0) * P + ur
  hlt : U < V * B

theorem Guess.vpos {B P V U vt vs u2 u1 u0 : Nat} (G : Guess B P V U vt vs u2 u1 u0) : 0 < vt := by
  have := G.half; have := G.hvt; omega

/-- The first guess is not too small. -/
theorem Guess.start {B P V U vt vs u2 u1 u0 : Nat} (G : Guess B P V U vt vs u2 u1 u0) : U / V ≤ (u2 * B + u1) / vt := by
  obtain ⟨vr, hvr, hV⟩ := G.hv
  obtain ⟨ur, hur, hU⟩ := G.hu
  have hv := G.vpos
  have hP := G.hP
  rw [Nat.le_div_iff_mul_le hv]
  have hVp : vt * B * P ≤ V := by
    rw [hV, Nat.add_mul]; omega
  have h1 : U / V * V ≤ U := Nat.div_mul_le_self U V
  have h2 : U < (u2 * B + u1 + 1) * (B * P) := by
    have : U < ((u2 * B + u1) * B + B) * P := by
      rw [hU]
      have h0 := G.hu0
      have : ((u2 * B + u1) * B + u0 + 1) * P ≤ ((u2 * B + u1) * B + B) * P := Nat.mul_le_mul_right _ (by omega)
      rw [Nat.add_mul _ 1, Nat.one_mul] at this
      omega
    rw [Nat.add_mul _ 1, Nat.one_mul, ← Nat.mul_assoc]
    rw [Nat.add_mul] at this
    exact this
  have h3 : U / V * vt * (B * P) ≤ U := by
    refine Nat.le_trans ?_ h1
    rw [Nat.mul_assoc, ← Nat.mul_assoc vt]
    exact Nat.mul_le_mul_left _ hVp
  have h4 : U / V * vt * (B * P) < (u2 * B + u1 + 1) * (B * P) := Nat.lt_of_le_of_lt h3 h2
  have := Nat.lt_of_mul_lt_mul_right h4
  omega

theorem Guess.vle {B P V U vt vs u2 u1 u0 : Nat} (G : Guess B P V U vt vs u2 u1 u0) : (vt * B + vs) * P ≤ V := by
  obtain ⟨vr, hvr, hV⟩ := G.hv; omega
theorem Guess.vlt {B P V U vt vs u2 u1 u0 : Nat} (G : Guess B P V U vt vs u2 u1 u0) : V < (vt * B + vs + 1) * P := by
  obtain ⟨vr, hvr, hV⟩ := G.hv
  rw [Nat.add_mul, Nat.one_mul]; omega
theorem Guess.ule {B P V U vt vs u2 u1 u0 : Nat} (G : Guess B P V U vt vs u2 u1 u0) : ((u2 * B + u1) * B + u0) * P ≤ U := by
  obtain ⟨ur, hur, hU⟩ := G.hu; omega
theorem Guess.ult {B P V U vt vs u2 u1 u0 : Nat} (G : Guess B P V U vt vs u2 u1 u0) : U < ((u2 * B + u1) * B + u0 + 1) * P := by
  obtain ⟨ur, hur, hU⟩ := G.hu
  rw [Nat.add_mul _ 1, Nat.one_mul]; omega
theorem Guess.Vpos {B P V U vt vs u2 u1 u0 : Nat} (G : Guess B P V U vt vs u2 u1 u0) : 0 < V := by
  have h1 := G.vle
  have h2 := G.vpos
  have h3 := G.hvt
  have h4 := G.hP
  have : 0 < (vt * B + vs) * P := Nat.mul_pos (by have : 0 < vt * B := Nat.mul_pos h2 (by omega); omega) h4
  omega
theorem Guess.qlt {B P V U vt vs u2 u1 u0 : Nat} (G : Guess B P V U vt vs u2 u1 u0) : U / V < B := by
  rw [Nat.div_lt_iff_lt_mul G.Vpos, Nat.mul_comm]; exact G.hlt

/-- A guess that is too great by the next digits is too great. -/
theorem Guess.down {B P V U vt vs u2 u1 u0 : Nat} (G : Guess B P V U vt vs u2 u1 u0) {q r : Nat} (hr : q * vt + r = u2 * B + u1) (h : q ≥ B ∨ q * vs > r * B + u0) : U / V < q := by
  rcases h with h | h
  · exact Nat.lt_of_lt_of_le G.qlt h
  · rw [Nat.div_lt_iff_lt_mul G.Vpos]
    have h1 := G.ult
    have h2 : ((u2 * B + u1) * B + u0 + 1) * P ≤ q * V := by
      refine Nat.le_trans ?_ (Nat.mul_le_mul_left q G.vle)
      rw [← Nat.mul_assoc]
      refine Nat.mul_le_mul_right _ ?_
      rw [← hr, Nat.mul_add, Nat.add_mul, Nat.mul_assoc]
      omega
    omega

/-- A guess that fits the next digits is right, or too great by one. -/
theorem Guess.done {B P V U vt vs u2 u1 u0 : Nat} (G : Guess B P V U vt vs u2 u1 u0) {q r : Nat} (hr : q * vt + r = u2 * B + u1) (hq : q < B) (h : q * vs ≤ r * B + u0) : q * V < U + V := by
  have h1 := G.ule
  have h2 : q * V ≤ q * ((vt * B + vs + 1) * P) := Nat.mul_le_mul_left q (Nat.le_of_lt G.vlt)
  have h3 : q * ((vt * B + vs + 1) * P) ≤ ((u2 * B + u1) * B + u0 + q) * P := by
    rw [← Nat.mul_assoc]
    refine Nat.mul_le_mul_right _ ?_
    rw [← hr, Nat.mul_add, Nat.mul_add, Nat.add_mul, Nat.mul_assoc]
    omega
  have h4 : q * P < V := by
    have h5 := G.vle
    have h6 := G.vpos
    have h7 : q * P < B * P := Nat.mul_lt_mul_of_pos_right hq G.hP
    have h8 : B * P ≤ (vt * B + vs) * P := Nat.mul_le_mul_right _ (by have : 1 * B ≤ vt * B := Nat.mul_le_mul_right _ h6; omega)
    omega
  rw [Nat.add_mul _ q] at h3
  omega

/-- When the rest passes the base, the guess fits. -/
theorem Guess.pass {B P V U vt vs u2 u1 u0 : Nat} (G : Guess B P V U vt vs u2 u1 u0) (hu : u2 ≤ vt) {q r : Nat} (hr : q * vt + r = u2 * B + u1) (h : B ≤ r) : q < B ∧ q * vs ≤ r * B + u0 := by
  have h1 := G.hu1
  have hv := G.vpos
  have hq : q < B := by
    rcases Nat.lt_or_ge q B with h2 | h2
    · exact h2
    · have h3 : B * vt ≤ q * vt := Nat.mul_le_mul_right _ h2
      have h4 : u2 * B ≤ vt * B := Nat.mul_le_mul_right _ hu
      rw [Nat.mul_comm vt B] at h4
      omega
  refine ⟨hq, ?_⟩
  have h5 : q * vs ≤ B * B := Nat.mul_le_mul (by omega) (Nat.le_of_lt G.hvs)
  have h6 : B * B ≤ r * B := Nat.mul_le_mul_right _ h
  omega

/-- The top digit of the part is at most that of the divisor. -/
theorem Guess.top {B P V U vt vs u2 u1 u0 : Nat} (G : Guess B P V U vt vs u2 u1 u0) : u2 ≤ vt := by
  rcases Nat.lt_or_ge vt u2 with h | h
  · exfalso
    have h1 := G.ule
    have h2 := G.vlt
    have h3 := G.hlt
    have h4 : (vt * B + vs + 1) * P ≤ (u2 * B) * P := Nat.mul_le_mul_right _ (by
      have := G.hvs
      have : (vt + 1) * B ≤ u2 * B := Nat.mul_le_mul_right _ h
      rw [Nat.add_mul, Nat.one_mul] at this
      omega)
    have h5 : V * B < (u2 * B) * P * B := Nat.mul_lt_mul_of_pos_right (Nat.lt_of_lt_of_le h2 h4) (by have := G.hvt; omega)
    have h6 : (u2 * B) * P * B ≤ ((u2 * B + u1) * B + u0) * P := by
      rw [Nat.mul_assoc, Nat.mul_comm P B, ← Nat.mul_assoc]
      refine Nat.mul_le_mul_right _ ?_
      rw [Nat.add_mul]; omega
    omega
  · exact h

end Go.Proofs.YteaopgkajbfkeaaGreatDoor
namespace Go.Proofs.YteaopgkajbfkeaaGreatDoor

/-- The decimal digits of a number. -/
def dec (n : Nat) : List UInt8 := if h : n < 10 then [UInt8.ofNat (48 + n)] else dec (n / 10) ++ [UInt8.ofNat (48 + n % 10)]
  termination_by n
  decreasing_by omega
theorem dec_lt {n : Nat} (h : n < 10) : dec n = [UInt8.ofNat (48 + n)] := by rw [dec, dif_pos h]
theorem dec_ge {n : Nat} (h : 10 ≤ n) : dec n = dec (n / 10) ++ [UInt8.ofNat (48 + n % 10)] := by rw [dec, dif_neg (by omega)]
def itoa (z : Int) : List UInt8 := if z < 0 then 45 :: dec z.natAbs else dec z.natAbs

/-- The number of decimal digits. -/
theorem dec_length {n k : Nat} (h1 : n < 10 ^ (k + 1)) (h2 : k = 0 ∨ 10 ^ k ≤ n) : (dec n).length = k + 1 := by
  induction k generalizing n with
  | zero => rw [dec_lt (by omega)]; rfl
  | succ k ih =>
    have h3 : 10 ^ (k + 1) ≤ n := by omega
    have h4 : (10 : Nat) ^ (k + 1) = 10 * 10 ^ k := by rw [Nat.pow_succ, Nat.mul_comm]
    have h5 : (10 : Nat) ^ (k + 1 + 1) = 10 * 10 ^ (k + 1) := by rw [Nat.pow_succ, Nat.mul_comm]
    have hp : 1 ≤ 10 ^ k := Nat.pow_pos (by omega)
    rw [dec_ge (by omega), List.length_append, ih (by omega) (.inr (by omega))]
    rfl
theorem dec_eq {n k : Nat} (h1 : n < 10 ^ (k + 1)) (h2 : k = 0 ∨ 10 ^ k ≤ n) : dec n = (List.range (k + 1)).map fun i => UInt8.ofNat (48 + n / 10 ^ (k - i) % 10) := by
  induction k generalizing n with
  | zero =>
    rw [dec_lt (by omega)]
    have : n % 10 = n := by omega
    simp [this]
  | succ k ih =>
    have h3 : 10 ^ (k + 1) ≤ n := by omega
    have h4 : (10 : Nat) ^ (k + 1) = 10 * 10 ^ k := by rw [Nat.pow_succ, Nat.mul_comm]
    have h5 : (10 : Nat) ^ (k + 1 + 1) = 10 * 10 ^ (k + 1) := by rw [Nat.pow_succ, Nat.mul_comm]
    have hp : 1 ≤ 10 ^ k := Nat.pow_pos (by omega)
    rw [dec_ge (by omega), ih (by omega) (.inr (by omega)), List.range_succ (n := k + 1), List.map_append]
    congr 1
    · apply List.map_congr_left
      intro i hi
      have hi' := List.mem_range.1 hi
      rw [Nat.div_div_eq_div_mul]
      congr 4
      rw [← Nat.pow_succ', show (k - i).succ = k + 1 - i by omega]
    · simp

theorem dec_pos_length (n : Nat) : 1 ≤ (dec n).length := by
  by_cases h : n < 10
  · rw [dec_lt h]; simp
  · rw [dec_ge (by omega)]; simp
theorem dec_length_le {n k : Nat} (h : n < 10 ^ (k + 1)) : (dec n).length ≤ k + 1 := by
  induction k generalizing n with
  | zero => rw [dec_lt (by omega)]; simp
  | succ k ih =>
    by_cases h1 : n < 10
    · rw [dec_lt h1]; simp
    · rw [dec_ge (by omega), List.length_append]
      have := ih (n := n / 10) (by rw [Nat.pow_succ] at h; omega)
      simp; omega

/-- An array as a function. -/
def upd (f : Nat → Nat) (i x : Nat) : Nat → Nat := fun j => if j = i then x else f j

end Go.Proofs.YteaopgkajbfkeaaGreatDoor
