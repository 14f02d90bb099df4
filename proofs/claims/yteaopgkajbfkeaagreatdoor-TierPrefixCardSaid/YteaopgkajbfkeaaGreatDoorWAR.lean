/- What the program's natural numbers give: quotient and remainder. What the program's natural numbers give: products. What the program's natural numbers give: products, and numbers out of bytes and back. What the program's natural numbers give: numbers out of bytes and back. What the program's natural numbers give: the bytes of a number. What strconv.Itoa gives. What strconv.Itoa gives. What strconv.Itoa gives. What the program's integers give. What the program's integers give: quotients and common divisors. What the program's integers give: common divisors. What printing an integer gives. -/
import Derived.Test.YteaopgkajbfkeaaGreatDoorWAG
import Derived.Test.YteaopgkajbfkeaaGreatDoorWAN
import Derived.Test.YteaopgkajbfkeaaGreatDoorWAQ
import Derived.Test.YteaopgkajbfkeaaGreatDoorWAK
import Derived.Test.YteaopgkajbfkeaaGreatDoorWAL
set_option linter.unusedSimpArgs false
set_option linter.unusedVariables false
namespace Go.Proofs.YteaopgkajbfkeaaGreatDoor
open Go

/-- Two digits, shifted. -/
theorem shr_digit {R z i : Nat} (hz : z < 32) : (R / 4294967296 ^ (i + 1) % 4294967296 * 4294967296 + R / 4294967296 ^ i % 4294967296) / 2 ^ z % 4294967296 = R / 2 ^ z / 4294967296 ^ i % 4294967296 := by
  have e1 : R / 2 ^ z / 4294967296 ^ i = R / 4294967296 ^ i / 2 ^ z := by rw [Nat.div_div_eq_div_mul, Nat.div_div_eq_div_mul, Nat.mul_comm]
  have e2 : R / 4294967296 ^ (i + 1) = R / 4294967296 ^ i / 4294967296 := by rw [Nat.pow_succ, Nat.div_div_eq_div_mul]
  rw [e1, e2]
  generalize R / 4294967296 ^ i = X
  obtain ⟨p, hp⟩ : ∃ p, 2 ^ z = p := ⟨_, rfl⟩
  obtain ⟨c, hc⟩ : ∃ c, 2 ^ (32 - z) = c := ⟨_, rfl⟩
  have hpc : p * c = 4294967296 := by rw [← hp, ← hc, ← Nat.pow_add, show z + (32 - z) = 32 by omega]
  rw [hp]
  have hp0 : 0 < p := by rw [← hp]; exact Nat.pow_pos (by omega)
  obtain ⟨t, ht⟩ : ∃ t, X / 4294967296 / 4294967296 = t := ⟨_, rfl⟩
  have hX : X = p * (4294967296 * (c * t)) + (X / 4294967296 % 4294967296 * 4294967296 + X % 4294967296) := by
    have : p * (4294967296 * (c * t)) = 4294967296 * (4294967296 * t) := by
      rw [Nat.mul_left_comm, ← Nat.mul_assoc p, hpc]
    omega
  rw [hX, Nat.mul_add_div hp0, Nat.mul_add_mod, ← hX]

theorem div_loop1 {k m z R : Nat} {B1 : Blk} (hz : z < 32) (hm : m < 2 ^ 30) (hk : k < 2 ^ 30)
    {mm : List (Nat × AV)} {d : AV} {Q : Ex → St → Prop}
    (m8 : lk d mm 8 = .int .i64 (z : Nat)) (m10 : lk d mm 10 = .osl 0 0 (k + 3 + m) (k + 3 + m)) (m12 : lk d mm 12 = .osl 1 0 (m + 1) (m + 1)) (m14 : lk d mm 14 = .osl 0 0 (k + 2) (k + 3 + m)) (m82 : lk d mm 82 = .int .i64 ((k : Int) + 2)) (m83 : lk d mm 83 = .int .i64 0)
    (hq : ∀ m' d' u, lk d' m' 12 = .osl 1 0 (m + 1) (m + 1) → lk d' m' 14 = .osl 0 0 (k + 2) (k + 3 + m) → u.length = k + 3 + m → u.take (k + 2) = dN (k + 2) (R / 2 ^ z) → Q .nrm (mkL 110 d' m', [blkN u, B1])) :
    V Cm 0 l_bigint_natural_divide_1 (mkL 110 d mm, [blkN (dN (k + 3 + m) R), B1]) Q ⟨⟩ ⟨⟩ := by
  unfold l_bigint_natural_divide_1
  simp
  obtain ⟨p, hp⟩ : ∃ p, 2 ^ z = p := ⟨_, rfl⟩
  have hpI : (2 : Int) ^ z = (p : Int) := by rw [← hp]; simp
  have hp0 : 0 < p := by rw [← hp]; exact Nat.pow_pos (by omega)
  have hmin : min z 64 = z := by omega
  refine V.loop (fun s : Nat × List Nat => s.1 ≤ k + 2 ∧ s.2.length = k + 3 + m ∧ s.2.take s.1 = dN s.1 (R / p) ∧ s.2.drop s.1 = (dN (k + 3 + m) R).drop s.1)
    (fun s => (mkL 110 .any [(8, .int .i64 z), (10, .osl 0 0 (k + 3 + m) (k + 3 + m)), (12, .osl 1 0 (m + 1) (m + 1)), (14, .osl 0 0 (k + 2) (k + 3 + m)), (82, .int .i64 ((k : Int) + 2)), (83, .int .i64 s.1)], [blkN s.2, B1])) (fun s => k + 2 - s.1) ?_ (0, dN (k + 3 + m) R) ?_ ?_
  · rintro ⟨i, u⟩ ⟨hi, hl, ht, hd⟩
    dsimp only at hi hl ht hd
    simp
    refine ⟨fun h => ?_, fun h => ?_⟩
    · have a0 := drop_at0 hd (by omega) (by simp; omega)
      have hd1 : u.drop (i + 1) = (dN (k + 3 + m) R).drop (i + 1) := by rw [← List.drop_drop, hd, List.drop_drop]
      have a1 := drop_at0 hd1 (by omega) (by simp; omega)
      rw [dN_at0 (by omega)] at a0 a1
      have b0 : at0 u i < 4294967296 := by rw [a0]; exact Nat.mod_lt _ (by omega)
      have b1 : at0 u (i + 1) < 4294967296 := by rw [a1]; exact Nat.mod_lt _ (by omega)
      obtain ⟨x, hx⟩ : ∃ x, (at0 u (i + 1) * 4294967296 + at0 u i) / p % 4294967296 = x := ⟨_, rfl⟩
      have hxI : ((at0 u (i + 1) : Int) * 4294967296 + at0 u i) / p % 4294967296 = x := by rw [← hx]; simp
      have hnn : 0 ≤ ((at0 u (i + 1) : Int) * 4294967296 + at0 u i) / p := Int.ediv_nonneg (by omega) (by omega)
      simp (disch := omega) [hl, or_shl32, hpI, hmin, hxI]
      refine ⟨i + 1, u.set i x, ⟨by omega, by simpa using hl, ?_, ?_⟩, by omega, by simp, rfl⟩
      · rw [List.take_succ_eq_append_getElem (by simp; omega), List.take_set_of_le (Nat.le_refl _), List.getElem_set_self, ht, dN_snoc, ← hx, a0, a1, ← hp, shr_digit hz]
      · rw [List.drop_set, if_pos (by omega), hd1]
    · obtain rfl : i = k + 2 := by omega
      simp
      refine hq _ _ u ?_ ?_ hl (by rw [ht, hp]) <;> simp
  · simp [dN, digN]
  · simp [m8, m10, m12, m14, m82, m83]

theorem val_drop_div {l : List Nat} {i : Nat} (h : D32 l) (hi : i ≤ l.length) : val (l.drop i) = val l / 4294967296 ^ i := by
  rw [val_split hi, Nat.add_comm, Nat.mul_add_div (Nat.pow_pos (by omega))]
  have := val_lt (h.take i)
  rw [List.length_take, Nat.min_eq_left hi] at this
  rw [Nat.div_eq_of_lt this, Nat.add_zero]

theorem q_divide (a b : Sl Nat) (ha : lst a = dig (val (lst a))) (hb : lst b = dig (val (lst b))) (h1 : (lst a).length ≤ 2 ^ 29) (h2 : (lst b).length ≤ 2 ^ 29) (hb0 : val (lst b) ≠ 0) :
    ∃ x y, Cm.q f_bigint_natural_divide [natA a, natA b] = some (.tup [natA x, natA y]) ∧ lst x = dig (val (lst a) / val (lst b)) ∧ lst y = dig (val (lst a) % val (lst b)) := by
  have da : D32 (lst a) := by rw [ha]; exact dig_dg _
  have db : D32 (lst b) := by rw [hb]; exact dig_dg _
  obtain ⟨va, hva⟩ : ∃ x, val (lst a) = x := ⟨_, rfl⟩
  obtain ⟨vb, hvb⟩ : ∃ x, val (lst b) = x := ⟨_, rfl⟩
  rw [hva] at ha
  rw [hvb] at hb hb0
  rw [hva, hvb]
  by_cases hlt : va < vb
  · -- the divisor is greater
    refine ⟨none, a, ?_, by rw [Nat.div_eq_of_lt hlt]; simp, by rw [Nat.mod_eq_of_lt hlt, ha]⟩
    refine q_by t_bigint_natural_divide (Gives_of rfl ?_)
    have hcmp := q_compare a b (by rw [hva]; exact ha) (by rw [hvb]; exact hb) (by omega) (by omega)
    rw [hva, hvb] at hcmp
    have hc := cmpN_lt.2 hlt
    simp (disch := omega) [e_bigint_natural_divide, hcmp, hc]
    rfl
  · have hlen : (lst b).length ≤ (lst a).length := by
      rw [ha, hb]; exact digB_length_mono (by omega) (by omega)
    have hcmp := q_compare a b (by rw [hva]; exact ha) (by rw [hvb]; exact hb) (by omega) (by omega)
    rw [hva, hvb] at hcmp
    have hcge : ¬ cmpN va vb < 0 := by rw [cmpN_lt]; exact hlt
    by_cases hl1 : (lst b).length = 1
    · -- one digit
      obtain ⟨dd, hdd⟩ : ∃ d, lst b = [d] := List.length_eq_one_iff.1 hl1
      have hd0 : at0 (lst b) 0 = vb := by rw [← hvb, hdd]; simp [at0]
      have hdlt := at0_lt db 0
      rw [hd0] at hdlt
      refine ⟨some (dig (va / vb)), some (dig (va % vb)), ?_, rfl, rfl⟩
      refine q_by t_bigint_natural_divide (Gives_of rfl ?_)
      have hsm := q_small a da (by omega) hb0 hdlt
      obtain ⟨rr, hrr⟩ : ∃ r, va % vb = r := ⟨_, rfl⟩
      have hrlt : rr < 4294967296 := by have := Nat.mod_lt va (show vb > 0 by omega); omega
      rw [hva, hrr] at hsm
      have htr : Cm.q f_bigint_natural_trim [.sl 1 [.int .u32 (rr : Int)]] = some (natA (some (dig rr))) := by
        have := q_trim_some (l := [rr]) (by simp) (.cons hrlt .nil)
        have e : val [rr] = rr := by simp
        rw [e] at this
        exact this
      rw [hrr]
      simp (disch := omega) [e_bigint_natural_divide, hcmp, hcge, hl1, hd0, hsm, htr]
    · obtain ⟨k, hk⟩ : ∃ k, (lst b).length = k + 2 := by
        refine ⟨(lst b).length - 2, ?_⟩
        have : (lst b).length ≠ 0 := by
          intro h
          rw [List.length_eq_zero_iff] at h
          rw [h] at hvb; simp at hvb; omega
        omega
      obtain ⟨m, hm⟩ : ∃ m, (lst a).length = k + 2 + m := ⟨(lst a).length - (k + 2), by omega⟩
      have hx0 : at0 (lst b) (k + 1) ≠ 0 := by
        have := dig_nz vb
        rw [← hb] at this
        have h2 := this (at0 (lst b) (k + 1)) (by rw [List.getLast?_eq_getElem?, hk, show k + 2 - 1 = k + 1 by omega, get_at0 (by omega)])
        exact h2
      obtain ⟨n1, n2, n3⟩ := norm_of db hk hx0
      have hxlt := at0_lt db (k + 1)
      obtain ⟨z, hz⟩ : ∃ z, 32 - blen (at0 (lst b) (k + 1)) = z := ⟨_, rfl⟩
      have hz31 : z < 32 := by
        have := blen_pos hx0
        omega
      rw [hz, hvb] at n2 n3
      obtain ⟨V', hV⟩ : ∃ V, 2 ^ z * vb = V := ⟨_, rfl⟩
      rw [hV] at n2 n3
      have hlz := q_LeadingZeros32 hxlt
      rw [hz] at hlz
      have hsb := q_shift b db (by omega) hz31
      rw [hvb, hV, hk] at hsb
      have hsa := k_shift a da (by omega) hz31
      rw [hva, hm] at hsa
      have htv := q_trim_some (l := dN (k + 2 + 1) V') (by simp; omega) (dN_dg _ _)
      have hVm : V' % 4294967296 ^ (k + 2 + 1) = V' := by
        apply Nat.mod_eq_of_lt
        have : (4294967296 : Nat) ^ (k + 2) ≤ 4294967296 ^ (k + 2 + 1) := Nat.pow_le_pow_right (by omega) (by omega)
        omega
      rw [val_dN, hVm] at htv
      have hvl : (dig V').length = k + 2 := by
        have h2 : (dig V').length ≤ k + 2 := dig_length_le.2 n2
        have h3 : ¬ (dig V').length ≤ k + 1 := by
          rw [dig_length_le]
          have := Nat.pow_pos (n := k + 1) (show 0 < 4294967296 by omega)
          omega
        omega
      have hvt : 4294967296 ≤ 2 * at0 (dig V') (k + 1) := by
        have h2 := val_take_succ (dig V') (k + 1)
        rw [List.take_of_length_le (by omega), val_dig] at h2
        have h3 := val_lt ((dig_dg V').take (k + 1))
        rw [List.length_take, Nat.min_eq_left (by omega)] at h3
        rcases Nat.lt_or_ge (at0 (dig V') (k + 1)) 2147483648 with h | h
        · exfalso
          have h4 : 4294967296 ^ (k + 1) * (at0 (dig V') (k + 1) + 1) ≤ 4294967296 ^ (k + 1) * 2147483648 := Nat.mul_le_mul_left _ h
          rw [Nat.mul_add, Nat.mul_comm _ 2147483648] at h4
          omega
        · omega
      -- the number whose digits are divided
      obtain ⟨U, hU⟩ : ∃ U, 2 ^ z * va = U := ⟨_, rfl⟩
      rw [hU] at hsa
      have hUm : U < 4294967296 ^ (k + 3 + m) := by
        have h2 := val_lt da
        rw [hva, hm] at h2
        have h3 : 2 ^ z < 2 ^ 32 := Nat.pow_lt_pow_right (by omega) hz31
        have h4 : 2 ^ z * va < 2 ^ 32 * 4294967296 ^ (k + 2 + m) := Nat.mul_lt_mul'' h3 h2
        rw [hU] at h4
        rw [show k + 3 + m = k + 2 + m + 1 by omega, Nat.pow_succ, Nat.mul_comm]
        exact h4
      have hdrop : val ((dN (k + 3 + m) U).drop (m + 1)) < V' := by
        rw [val_drop_div (dN_dg _ _) (by simp; omega), val_dN, Nat.mod_eq_of_lt hUm, Nat.div_lt_iff_lt_mul (Nat.pow_pos (by omega))]
        have h2 := val_lt da
        rw [hva, hm] at h2
        have h3 : 4294967296 ^ (k + 1) ≤ vb := by
          have : k + 1 < (dig vb).length := by rw [← hb]; omega
          exact (digB_length_lt (by omega)).1 this
        have hp : 0 < 2 ^ z := Nat.pow_pos (by omega)
        rw [← hU, ← hV, Nat.mul_assoc]
        refine Nat.mul_lt_mul_of_pos_left ?_ hp
        refine Nat.lt_of_lt_of_le h2 ?_
        rw [show k + 2 + m = (k + 1) + (m + 1) by omega, Nat.pow_add]
        exact Nat.mul_le_mul_right _ h3
      refine ⟨some (dig (va / vb)), some (dig (va % vb)), ?_, rfl, rfl⟩
      refine q_by t_bigint_natural_divide (Gives_of rfl ?_)
      have hkm : k + 2 + m + 1 = k + 3 + m := by omega
      have hi1 : (k : Int) + 3 + (m - (k + 2)) = m + 1 := by omega
      have hi2 : (k : Int) + 3 + (m - (k + 2) - 1) = m := by omega
      simp (disch := omega) [e_bigint_natural_divide, hcmp, hcge, hk, hl1, hlz, hsb, htv, hsa, hvl, hkm, Int.add_sub_assoc, hi1, hi2]
      refine div_loop0 (v := some (dig V')) (z := z) (dig_dg V') hvl hvt (by omega) (by simp) (dN_dg _ _) (by simpa using hdrop) (by omega) ?_ ?_ ?_ ?_ ?_ ?_ ?_ <;> (try simp)
      intro m1 d1 u q f8 f10 f11 f12 hlu hdu hlq hdq hult hval
      obtain ⟨R, hR⟩ : ∃ R, val u = R := ⟨_, rfl⟩
      have hud : u = dN (k + 3 + m) R := dN_of hdu hlu hR
      simp only [lst_some, val_dig, val_dN, Nat.mod_eq_of_lt hUm, hR] at hult hval
      have hp : 0 < 2 ^ z := Nat.pow_pos (by omega)
      have hQ : vb * val q ≤ va := by
        have : 2 ^ z * (vb * val q) ≤ 2 ^ z * va := by rw [← Nat.mul_assoc, hV, hU]; omega
        exact Nat.le_of_mul_le_mul_left this hp
      have hRe : R = 2 ^ z * (va - vb * val q) := by
        rw [Nat.mul_sub, ← Nat.mul_assoc, hV, hU]; omega
      have hr1 : R / 2 ^ z = va - vb * val q := by rw [hRe, Nat.mul_div_cancel_left _ hp]
      have hr2 : va - vb * val q < vb := by
        have : 2 ^ z * (va - vb * val q) < 2 ^ z * vb := by rw [← hRe, hV]; exact hult
        exact Nat.lt_of_mul_lt_mul_left this
      have hdm : va / vb = val q ∧ va % vb = va - vb * val q := by
        have e : va = vb * val q + (va - vb * val q) := by omega
        constructor
        · conv => lhs; rw [e]
          rw [Nat.mul_add_div (by omega), Nat.div_eq_of_lt hr2, Nat.add_zero]
        · conv => lhs; rw [e]
          rw [Nat.mul_add_mod, Nat.mod_eq_of_lt hr2]
      rw [hdm.1, hdm.2, ← hr1]
      rw [hud] at hlu ⊢
      simp (disch := omega) [f8, f10, f11, f12, hlu]
      refine div_loop1 (z := z) hz31 (by omega) (by omega) ?_ ?_ ?_ ?_ ?_ ?_ ?_ <;> (try simp [f8, f10, f12])
      intro m2 d2 u2 g12 g14 gl gt
      have ht1 := q_trim_some (l := q) (by omega) hdq
      have htk : q.take (m + 1) = q := List.take_of_length_le (by omega)
      have hRlt : R / 2 ^ z < 4294967296 ^ (k + 2) := by
        rw [hr1]
        have := val_lt db
        rw [hvb, hk] at this
        omega
      have ht2 := q_trim_some (l := dN (k + 2) (R / 2 ^ z)) (by simp; omega) (dN_dg _ _)
      rw [val_dN, Nat.mod_eq_of_lt hRlt] at ht2
      simp (disch := omega) [g12, g14, gl, gt, hlq, htk, ht1, ht2]
end Go.Proofs.YteaopgkajbfkeaaGreatDoor
namespace Go.Proofs.YteaopgkajbfkeaaGreatDoor
open Go

theorem val_set {l : List Nat} {i x : Nat} (h : i < l.length) : val (l.set i x) + 4294967296 ^ i * at0 l i = val l + 4294967296 ^ i * x := by
  have e1 := val_split (l := l.set i x) (i := i) (by simp; omega)
  have e2 := val_split (l := l) (i := i) (by omega)
  have e3 := val_drop0 (l := l.set i x) (i := i) (by simp; omega)
  have e4 := val_drop0 (l := l) (i := i) h
  have e5 : (l.set i x).drop (i + 1) = l.drop (i + 1) := by rw [List.drop_set, if_pos (by omega)]
  rw [List.take_set_of_le (Nat.le_refl _), e3, at0_set h, if_pos rfl, e5] at e1
  rw [e4] at e2
  rw [e1, e2]
  simp only [Nat.mul_add]
  omega

theorem m_put {n at' x y T : Nat} (hn : n < 2 ^ 31) (ha : at' + 1 < n) (hx : x < 4294967296) (hy : y < 4294967296) (hT : T + 4294967296 ^ at' * (x * y) < 4294967296 ^ n) :
    Cm.m f_bigint_product_put [.osl 0 0 n n, .int .i64 at', .int .u32 x, .int .u32 y] [blkN (dN n T)] = some (.tup [], [blkN (dN n (T + 4294967296 ^ at' * (x * y)))]) := by
  refine m_by t_bigint_product_put (Gives_of rfl ?_)
  obtain ⟨hi, lo, hhi, hlo, he, hq⟩ := x_Mul32 hx hy
  have hTm : T % 4294967296 ^ n = T := Nat.mod_eq_of_lt (by omega)
  have hd : D32 (dN n T) := dN_dg _ _
  obtain ⟨out, ho⟩ : ∃ l, dN n T = l := ⟨_, rfl⟩
  have hol : out.length = n := by rw [← ho]; simp
  have hov : val out = T := by rw [← ho, val_dN, hTm]
  rw [ho] at hd ⊢
  obtain ⟨S, hS⟩ : ∃ S, T + 4294967296 ^ at' * (x * y) = S := ⟨_, rfl⟩
  rw [hS] at hT ⊢
  obtain ⟨s1, c1, hs1, hc1, he1, hq1⟩ := x_Add32 (x := at0 out at') (y := lo) (c := 0) (at0_lt hd _) hlo (by omega)
  obtain ⟨s2, c2, hs2, hc2, he2, hq2⟩ := x_Add32 (x := at0 (out.set at' s1) (at' + 1)) (y := hi) (c := c1) (at0_lt (hd.set hs1 _) _) (by omega) hc1
  simp at hq1
  have hg : at0 (out.set at' s1) (at' + 1) = at0 out (at' + 1) := by rw [at0_set (by omega), if_neg (by omega)]
  have hd1 := hd.set hs1 at'
  have hd2 := hd1.set hs2 (at' + 1)
  have hv1 := val_set (l := out) (i := at') (x := s1) (by omega)
  have hv2 := val_set (l := out.set at' s1) (i := at' + 1) (x := s2) (by simp; omega)
  have hl2 : ((out.set at' s1).set (at' + 1) s2).length = n := by simpa using hol
  have hv : val ((out.set at' s1).set (at' + 1) s2) + 4294967296 ^ (at' + 2) * c2 = S := by
    have e1 := congrArg (4294967296 ^ at' * ·) he1
    have e2 := congrArg (4294967296 ^ (at' + 1) * ·) he2
    have e3 := congrArg (4294967296 ^ at' * ·) he
    simp only [Nat.mul_add] at e1 e2 e3
    have e4 : (4294967296 : Nat) ^ (at' + 1) = 4294967296 ^ at' * 4294967296 := Nat.pow_succ _ _
    have e5 : (4294967296 : Nat) ^ (at' + 2) = 4294967296 ^ (at' + 1) * 4294967296 := Nat.pow_succ _ _
    have f1 : 4294967296 ^ at' * (4294967296 * c1) = 4294967296 ^ (at' + 1) * c1 := by rw [e4, Nat.mul_assoc]
    have f2 : 4294967296 ^ at' * (4294967296 * hi) = 4294967296 ^ (at' + 1) * hi := by rw [e4, Nat.mul_assoc]
    have f3 : 4294967296 ^ (at' + 1) * (4294967296 * c2) = 4294967296 ^ (at' + 2) * c2 := by rw [e5, Nat.mul_assoc]
    rw [f1] at e1
    rw [f2] at e3
    rw [f3] at e2
    omega
  simp (disch := omega) [e_bigint_product_put, hq, hq1, hq2, hol, hg]
  rw [hg] at hq2
  simp (disch := omega) [hq2, hol]
  obtain ⟨out2, ho2⟩ : ∃ l, (out.set at' s1).set (at' + 1) s2 = l := ⟨_, rfl⟩
  rw [ho2] at hv hd2 hl2 ⊢
  simp [l_bigint_product_put_0]
  refine V.loop (fun s : AddSt => s.out.length = n ∧ D32 s.out ∧ s.c < 2 ∧ s.i ≤ n + 1 ∧ val s.out + 4294967296 ^ s.i * s.c = S)
    (fun s => (mkL 63 .any [(0, .osl 0 0 n n), (10, .int .u32 s.c), (11, .int .i64 s.i)], [blkN s.out])) (fun s => n + 1 - s.i) ?_ ⟨at' + 2, out2, c2⟩ ⟨hl2, hd2, hc2, by simp; omega, hv⟩ ?_
  · rintro ⟨i, o, c⟩ ⟨gl, gd, gc, gi, gv⟩
    dsimp only at gl gd gc gi gv
    simp
    refine ⟨fun h => ?_, fun h => ?_⟩
    · have hc1 : c = 1 := by omega
      subst hc1
      have hin : i < n := by
        rcases Nat.lt_or_ge i n with h | h
        · exact h
        · have : (4294967296 : Nat) ^ n ≤ 4294967296 ^ i := Nat.pow_le_pow_right (by omega) h
          omega
      obtain ⟨s, k, hs, hk, hsk, hqq⟩ := x_Add32 (x := at0 o i) (y := 0) (c := 1) (at0_lt gd _) (by omega) (by omega)
      simp at hqq
      simp (disch := omega) [gl, hqq]
      refine ⟨⟨i + 1, o.set i s, k⟩, ⟨by simpa using gl, gd.set hs _, hk, by simp; omega, ?_⟩, by simp; omega, by simp, by simp⟩
      simp only
      have e1 := val_set (l := o) (i := i) (x := s) (by omega)
      have e2 := congrArg (4294967296 ^ i * ·) hsk
      simp only [Nat.mul_add] at e2
      have e3 : 4294967296 ^ i * (4294967296 * k) = 4294967296 ^ (i + 1) * k := by rw [Nat.pow_succ, Nat.mul_assoc]
      omega
    · have hc0 : c = 0 := by omega
      subst hc0
      have gv' : val o = S := by omega
      simp
      rw [dN_of gd gl gv']
  · simp
end Go.Proofs.YteaopgkajbfkeaaGreatDoor
namespace Go.Proofs.YteaopgkajbfkeaaGreatDoor
open Go

theorem val_take_le (l : List Nat) (i : Nat) : val (l.take i) ≤ val l := by
  by_cases h : i ≤ l.length
  · rw [val_split h]; omega
  · rw [List.take_of_length_le (by omega)]; exact Nat.le_refl _

theorem mul_loop1 {a b : Sl Nat} {n i : Nat} (ha : D32 (lst a)) (hb : D32 (lst b)) (hi : i < (lst a).length) (hn : n = (lst a).length + (lst b).length + 1) (hn2 : n < 2 ^ 31)
    {m : List (Nat × AV)} {d : AV} {Q : Ex → St → Prop}
    (m1 : lk d m 1 = natA b) (m5 : lk d m 5 = .osl 0 0 n n) (m6 : lk d m 6 = .fn f_bigint_product_put [.osl 0 0 n n] []) (m7 : lk d m 7 = .int .i64 i) (m8 : lk d m 8 = .int .u32 (at0 (lst a) i)) (m20 : lk d m 20 = natA a) (m21 : lk d m 21 = .int .i64 (lst a).length) (m22 : lk d m 22 = .int .i64 i) (m27 : lk d m 27 = natA b) (m28 : lk d m 28 = .int .i64 (lst b).length) (m29 : lk d m 29 = .int .i64 0)
    (hq : ∀ m' d', lk d' m' 1 = natA b → lk d' m' 5 = .osl 0 0 n n → lk d' m' 6 = .fn f_bigint_product_put [.osl 0 0 n n] [] → lk d' m' 20 = natA a → lk d' m' 21 = .int .i64 (lst a).length → lk d' m' 22 = .int .i64 i → Q .nrm (mkL 45 d' m', [blkN (dN n (val ((lst a).take (i + 1)) * val (lst b)))])) :
    V Cm 0 l_bigint_natural_mul_1 (mkL 45 d m, [blkN (dN n (val ((lst a).take i) * val (lst b)))]) Q ⟨⟩ ⟨⟩ := by
  unfold l_bigint_natural_mul_1
  simp
  have hab : val (lst a) * val (lst b) < 4294967296 ^ n := by
    have h1 := val_lt ha
    have h2 := val_lt hb
    have h3 : val (lst a) * val (lst b) < 4294967296 ^ (lst a).length * 4294967296 ^ (lst b).length := Nat.mul_lt_mul'' h1 h2
    rw [← Nat.pow_add] at h3
    have h4 : (4294967296 : Nat) ^ ((lst a).length + (lst b).length) ≤ 4294967296 ^ n := Nat.pow_le_pow_right (by omega) (by omega)
    omega
  have hstep : ∀ k, val ((lst a).take i) * val (lst b) + 4294967296 ^ i * at0 (lst a) i * val ((lst b).take k) < 4294967296 ^ n := by
    intro k
    have h1 : val ((lst a).take i) * val (lst b) + 4294967296 ^ i * at0 (lst a) i * val ((lst b).take k) ≤ val ((lst a).take (i + 1)) * val (lst b) := by
      rw [val_take_succ, Nat.add_mul]
      exact Nat.add_le_add_left (Nat.mul_le_mul_left _ (val_take_le _ _)) _
    have h2 : val ((lst a).take (i + 1)) * val (lst b) ≤ val (lst a) * val (lst b) := Nat.mul_le_mul_right _ (val_take_le _ _)
    omega
  refine V.loop (fun k : Nat => k ≤ (lst b).length)
    (fun k => (mkL 45 .any [(1, natA b), (5, .osl 0 0 n n), (6, .fn f_bigint_product_put [.osl 0 0 n n] []), (7, .int .i64 i), (8, .int .u32 (at0 (lst a) i)), (20, natA a), (21, .int .i64 (lst a).length), (22, .int .i64 i), (27, natA b), (28, .int .i64 (lst b).length), (29, .int .i64 k)], [blkN (dN n (val ((lst a).take i) * val (lst b) + 4294967296 ^ i * at0 (lst a) i * val ((lst b).take k)))])) (fun k => (lst b).length - k) ?_ 0 (Nat.zero_le _) ?_
  · intro k hk
    simp
    refine ⟨fun h => ?_, fun h => ?_⟩
    · have lb := at0_lt hb k
      have la := at0_lt ha i
      have e : val ((lst a).take i) * val (lst b) + 4294967296 ^ i * at0 (lst a) i * val ((lst b).take k) + 4294967296 ^ (i + k) * (at0 (lst a) i * at0 (lst b) k) = val ((lst a).take i) * val (lst b) + 4294967296 ^ i * at0 (lst a) i * val ((lst b).take (k + 1)) := by
        rw [val_take_succ, Nat.mul_add, Nat.pow_add, Nat.add_assoc]
        congr 2
        rw [Nat.mul_assoc, Nat.mul_assoc, Nat.mul_left_comm (4294967296 ^ k)]
      have hp := m_put (n := n) (at' := i + k) (T := val ((lst a).take i) * val (lst b) + 4294967296 ^ i * at0 (lst a) i * val ((lst b).take k)) hn2 (by omega) la lb (by rw [e]; exact hstep _)
      rw [e] at hp
      simp at hp
      simp (disch := omega) [hp]
      exact ⟨k + 1, by omega, by omega, by simp, rfl⟩
    · obtain rfl : k = (lst b).length := by omega
      simp
      rw [← Nat.add_mul, ← val_take_succ]
      exact hq _ _ (by simp) (by simp) (by simp) (by simp) (by simp) (by simp)
  · simp [m1, m5, m6, m7, m8, m20, m21, m22, m27, m28, m29]

theorem q_mul (a b : Sl Nat) (ha : D32 (lst a)) (hb : D32 (lst b)) (h1 : (lst a).length ≤ 2 ^ 29) (h2 : (lst b).length ≤ 2 ^ 29) :
    Cm.q f_bigint_natural_mul [natA a, natA b] = some (natA (some (dig (val (lst a) * val (lst b))))) := by
  refine q_by t_bigint_natural_mul (Gives_of rfl ?_)
  obtain ⟨n, hn⟩ : ∃ n, n = (lst a).length + (lst b).length + 1 := ⟨_, rfl⟩
  have hz : dN n 0 = List.replicate n 0 := (dN_of (Dg.replicate (by omega)) (by simp) (by
    have : ∀ n, val (List.replicate n 0) = 0 := by
      intro n; induction n with
      | zero => rfl
      | succ n ih => rw [List.replicate_succ, val_cons, ih]
    exact this n)).symm
  obtain ⟨P, hP⟩ : ∃ P, val (lst a) * val (lst b) = P := ⟨_, rfl⟩
  rw [hP]
  simp (disch := omega) [e_bigint_natural_mul, l_bigint_natural_mul_0, ← hn]
  refine V.loop (fun i : Nat => i ≤ (lst a).length)
    (fun i => (mkL 45 .any [(1, natA b), (5, .osl 0 0 n n), (6, .fn f_bigint_product_put [.osl 0 0 n n] []), (20, natA a), (21, .int .i64 (lst a).length), (22, .int .i64 i)], [blkN (dN n (val ((lst a).take i) * val (lst b)))])) (fun i => (lst a).length - i) ?_ 0 (Nat.zero_le _) ?_
  · intro i hi
    simp
    refine ⟨fun h => ?_, fun h => ?_⟩
    · simp (disch := omega)
      refine mul_loop1 ha hb h hn (by omega) ?_ ?_ ?_ ?_ ?_ ?_ ?_ ?_ ?_ ?_ ?_ ?_ <;> (try simp)
      intro m' d' f1 f5 f6 f20 f21 f22
      simp (disch := omega) [f1, f5, f6, f20, f21, f22]
      exact ⟨i + 1, by omega, by omega, by simp, rfl⟩
    · obtain rfl : i = (lst a).length := by omega
      have ht := q_trim_some (l := dN n P) (by simp; omega) (dN_dg _ _)
      have hab : P < 4294967296 ^ n := by
        have h1 := val_lt ha
        have h2 := val_lt hb
        have h3 : val (lst a) * val (lst b) < 4294967296 ^ (lst a).length * 4294967296 ^ (lst b).length := Nat.mul_lt_mul'' h1 h2
        rw [← Nat.pow_add, hP] at h3
        have h4 : (4294967296 : Nat) ^ ((lst a).length + (lst b).length) ≤ 4294967296 ^ n := Nat.pow_le_pow_right (by omega) (by omega)
        omega
      rw [val_dN, Nat.mod_eq_of_lt hab] at ht
      have htk : (dN n P).take n = dN n P := List.take_of_length_le (by simp)
      simp (disch := omega) [hP, ht, htk]
  · simp [hz]
end Go.Proofs.YteaopgkajbfkeaaGreatDoor
namespace Go.Proofs.YteaopgkajbfkeaaGreatDoor
open Go

def u8 (b : UInt8) : AV := .int .u8 b.toNat
@[simp] theorem u8_eq (b : UInt8) : u8 b = .int .u8 b.toNat := rfl

theorem ofMag_drop (s : List UInt8) (i : Nat) : ofMag (s.drop (s.length - i)) < 256 ^ i := by
  have := ofMag_lt (s.drop (s.length - i))
  have h2 : (256 : Nat) ^ (s.drop (s.length - i)).length ≤ 256 ^ i := Nat.pow_le_pow_right (by omega) (by simp; omega)
  omega
theorem ofMag_drop_succ {s : List UInt8} {i : Nat} (h : i < s.length) : ofMag (s.drop (s.length - (i + 1))) = 256 ^ i * (s[s.length - 1 - i]'(by omega)).toNat + ofMag (s.drop (s.length - i)) := by
  have e : s.length - (i + 1) = s.length - 1 - i := by omega
  rw [e, List.drop_eq_getElem_cons (by omega), ofMag_cons]
  have e2 : s.length - 1 - i + 1 = s.length - i := by omega
  rw [e2, List.length_drop]
  congr 2
  congr 1
  omega

theorem q_bigint_of (s : List UInt8) (hs : s.length ≤ 2 ^ 30) : Cm.q f_bigint_of [.str s] = some (natA (some (dig (ofMag s)))) := by
  refine q_by t_bigint_of (Gives_of rfl ?_)
  obtain ⟨n, hn⟩ : ∃ n, n = (s.length + 3) / 4 := ⟨_, rfl⟩
  have hnI : ((s.length : Int) + 3) / 4 = n := by omega
  have hz : dN n 0 = List.replicate n 0 := (dN_of (Dg.replicate (by omega)) (by simp) (by
    have : ∀ n, val (List.replicate n 0) = 0 := by
      intro n; induction n with
      | zero => rfl
      | succ n ih => rw [List.replicate_succ, val_cons, ih]
    exact this n)).symm
  have hpow : ∀ j r, (256 : Nat) ^ (4 * j + r) = 4294967296 ^ j * 256 ^ r := by
    intro j r; rw [Nat.pow_add, Nat.pow_mul]
  have hfull : ∀ i, i ≤ s.length → ofMag (s.drop (s.length - i)) < 4294967296 ^ n := by
    intro i hi
    have h1 := ofMag_drop s i
    have h2 : (256 : Nat) ^ i ≤ 256 ^ (4 * n + 0) := Nat.pow_le_pow_right (by omega) (by omega)
    rw [hpow] at h2
    omega
  simp (disch := omega) [e_bigint_of, l_bigint_of_0, hnI]
  refine V.loop (fun i : Nat => i ≤ s.length)
    (fun i => (mkL 39 .any [(0, .str s), (3, .osl 0 0 n n), (12, .int .i64 s.length), (13, .int .i64 i)], [blkN (dN n (ofMag (s.drop (s.length - i))))])) (fun i => s.length - i) ?_ 0 (Nat.zero_le _) ?_
  · intro i hi
    simp
    refine ⟨fun h => ?_, fun h => ?_⟩
    · have hT := ofMag_drop s i
      have hTs := ofMag_drop_succ h
      have hf1 := hfull i hi
      have hf2 := hfull (i + 1) h
      obtain ⟨T, hTe⟩ : ∃ T, ofMag (s.drop (s.length - i)) = T := ⟨_, rfl⟩
      obtain ⟨T2, hT2⟩ : ∃ T, ofMag (s.drop (s.length - (i + 1))) = T := ⟨_, rfl⟩
      obtain ⟨x, hx⟩ : ∃ x, s[s.length - 1 - i]'(by omega) = x := ⟨_, rfl⟩
      rw [hx, hTe, hT2] at hTs
      rw [hTe] at hT hf1
      rw [hT2] at hf2
      have hxb := x.toNat_lt
      obtain ⟨j, r, hij, hr4⟩ : ∃ j r, i = 4 * j + r ∧ r < 4 := ⟨i / 4, i % 4, by omega, by omega⟩
      have hjI : (i : Int) / 4 = j := by omega
      have hrI : (i : Int) % 4 = r := by omega
      have hjn : j < n := by omega
      have hidx : (s.length : Int) - 1 - i = ((s.length - 1 - i : Nat) : Int) := by omega
      have hget : s[s.length - 1 - i]? = some x := by rw [List.getElem?_eq_getElem (by omega), hx]
      obtain ⟨ix, hix⟩ : ∃ ix, s.length - 1 - i = ix := ⟨_, rfl⟩
      rw [hix] at hidx hget
      have hgx : ∀ h, s[ix]'h = x := by
        intro h
        rw [List.getElem?_eq_getElem h] at hget
        exact Option.some.inj hget
      -- the digit as it stands
      have hy := dN_at0 (v := T) hjn
      have hylt : at0 (dN n T) j < 256 ^ r := by
        rw [hy]
        refine Nat.lt_of_le_of_lt (Nat.mod_le _ _) ?_
        rw [Nat.div_lt_iff_lt_mul (Nat.pow_pos (by omega)), Nat.mul_comm, ← hpow, ← hij]
        exact hT
      have hvs := val_set (l := dN n T) (i := j) (x := at0 (dN n T) j + x.toNat * 256 ^ r) (by simp; omega)
      rw [val_dN, Nat.mod_eq_of_lt hf1] at hvs
      have hnew : (dN n T).set j (at0 (dN n T) j + x.toNat * 256 ^ r) = dN n T2 := by
        refine dN_of ((dN_dg _ _).set ?_ _) (by simp) ?_
        · have h1 : (x.toNat + 1) * 256 ^ r ≤ 256 * 256 ^ r := Nat.mul_le_mul_right _ (by omega)
          have h2 : (256 : Nat) * 256 ^ r = 256 ^ (r + 1) := by rw [Nat.pow_succ, Nat.mul_comm]
          have h3 : (256 : Nat) ^ (r + 1) ≤ 256 ^ 4 := Nat.pow_le_pow_right (by omega) (by omega)
          rw [Nat.add_mul, Nat.one_mul] at h1
          omega
        · rw [hTs, hij, hpow]
          have h1 : 4294967296 ^ j * (at0 (dN n T) j + x.toNat * 256 ^ r) = 4294967296 ^ j * at0 (dN n T) j + 4294967296 ^ j * 256 ^ r * x.toNat := by
            rw [Nat.mul_add, Nat.mul_assoc, Nat.mul_comm (x.toNat)]
          omega
      obtain ⟨y, hye⟩ : ∃ y, at0 (dN n T) j = y := ⟨_, rfl⟩
      rw [hye] at hylt hnew
      have hg : (dN n T)[j]? = some y := by rw [get_at0 (by simpa using hjn), hye]
      have hyB : y < 4294967296 := by rw [← hye]; exact at0_lt (dN_dg _ _) _
      -- the shifted byte and the digit do not meet
      have hor : ∀ p : Nat, 256 ^ r = p → orI .u32 (y : Int) ((x.toNat : Int) * p) = ((y + x.toNat * 256 ^ r : Nat) : Int) := by
        intro p hp
        have hb : x.toNat * p < 4294967296 := by
          have h1 : x.toNat * p < 256 * p := Nat.mul_lt_mul_of_pos_right hxb (by rw [← hp]; exact Nat.pow_pos (by omega))
          have h3 : (256 : Nat) ^ (r + 1) ≤ 256 ^ 4 := Nat.pow_le_pow_right (by omega) (by omega)
          rw [Nat.pow_succ, hp] at h3
          omega
        have e : ((x.toNat : Int) * p) = ((x.toNat * p : Nat) : Int) := by simp
        have hp2 : 2 ^ (8 * r) = p := by rw [← hp, Nat.pow_mul]
        rw [e, orI_nat rfl (by simpa using hyB) (by simpa using hb), Nat.or_comm, nat_or_add (k := 8 * r) (by rw [hp2]; simp) (by rw [hp2, ← hp]; exact hylt), hp, Nat.add_comm]
      obtain ⟨w, hw⟩ : ∃ w, y + x.toNat * 256 ^ r = w := ⟨_, rfl⟩
      simp only [hw] at hor hnew
      have hr : r = 0 ∨ r = 1 ∨ r = 2 ∨ r = 3 := by omega
      rcases hr with rfl | rfl | rfl | rfl
      · have := hor 1 rfl
        simp at this
        simp (disch := omega) [hTe, hjI, hrI, hidx, hgx, hg, this, hnew]
        exact ⟨i + 1, by omega, by omega, by simp, by rw [hT2]⟩
      · have := hor 256 rfl
        simp at this
        simp (disch := omega) [hTe, hjI, hrI, hidx, hgx, hg, this, hnew]
        exact ⟨i + 1, by omega, by omega, by simp, by rw [hT2]⟩
      · have := hor 65536 rfl
        simp at this
        simp (disch := omega) [hTe, hjI, hrI, hidx, hgx, hg, this, hnew]
        exact ⟨i + 1, by omega, by omega, by simp, by rw [hT2]⟩
      · have := hor 16777216 rfl
        simp at this
        simp (disch := omega) [hTe, hjI, hrI, hidx, hgx, hg, this, hnew]
        exact ⟨i + 1, by omega, by omega, by simp, by rw [hT2]⟩
    · obtain rfl : i = s.length := by omega
      have ht := q_trim_some (l := dN n (ofMag s)) (by simp; omega) (dN_dg _ _)
      have hf := hfull s.length (Nat.le_refl _)
      simp at hf
      rw [val_dN, Nat.mod_eq_of_lt hf] at ht
      have htk : (dN n (ofMag s)).take n = dN n (ofMag s) := List.take_of_length_le (by simp)
      simp (disch := omega) [htk, ht]
  · simp [hz]
end Go.Proofs.YteaopgkajbfkeaaGreatDoor
namespace Go.Proofs.YteaopgkajbfkeaaGreatDoor
open Go

theorem q_trimLeftByte (s : List UInt8) (c : UInt8) (hs : s.length < 2 ^ 62) : Cm.q f_strings_trimLeftByte [.str s, .int .u8 c.toNat] = some (.str (s.dropWhile (· == c))) := by
  refine q_by t_strings_trimLeftByte (Gives_of rfl ?_)
  simp (disch := omega) [e_strings_trimLeftByte, l_strings_trimLeftByte_0]
  refine V.loop (fun t : List UInt8 => t.length ≤ s.length ∧ t.dropWhile (· == c) = s.dropWhile (· == c)) (fun t => (mkL 17 .any [(0, .str t), (1, .int .u8 c.toNat)], [])) (fun t => t.length) ?_ s ⟨Nat.le_refl _, rfl⟩ ?_
  · rintro t ⟨ht, hd⟩
    cases t with
    | nil => simp at hd; simp [← hd]
    | cons x t =>
      simp at ht
      simp (disch := omega)
      refine ⟨fun h => ?_, fun h => ?_⟩
      · have hx : x = c := UInt8.toNat_inj.1 (by omega)
        subst hx
        simp (disch := omega)
        exact ⟨t, ⟨by omega, by rw [← hd]; simp⟩, by omega, by simp [List.take_of_length_le]⟩
      · have hx : ¬ x = c := fun e => h (by rw [e])
        simp
        rw [← hd]
        simp [hx]
  · simp

theorem q_TrimLeft1 (s : List UInt8) (c : UInt8) (hs : s.length < 2 ^ 62) (hc : c.toNat < 128) : Cm.q f_strings_TrimLeft [.str s, .str [c]] = some (.str (s.dropWhile (· == c))) := by
  refine q_by t_strings_TrimLeft (Gives_of rfl ?_)
  cases s with
  | nil => simp [e_strings_TrimLeft]
  | cons x s =>
    simp (disch := omega) [e_strings_TrimLeft]
    have := q_trimLeftByte (x :: s) c hs
    simp (disch := omega) [this]

theorem bytesOf_u8 : ∀ l : List UInt8, bytesOf (l.map u8) = some l
  | [] => rfl
  | b :: l => by
    have := b.toNat_lt
    simp only [List.map_cons, u8_eq, bytesOf, bytesOf_u8 l]
    rw [if_pos ⟨by omega, by omega⟩]
    simp

/-- A digit as bytes. -/
def be4 (d : Nat) : List UInt8 := [UInt8.ofNat (d / 16777216), UInt8.ofNat (d / 65536), UInt8.ofNat (d / 256), UInt8.ofNat d]
theorem ofMag_be4 {d : Nat} (h : d < 4294967296) : ofMag (be4 d) = d := by
  simp only [be4, ofMag_cons, ofMag_nil, List.length_cons, List.length_nil, UInt8.toNat_ofNat']
  omega
/-- Digits as bytes. -/
def beB (l : List Nat) : List UInt8 := l.reverse.flatMap be4
theorem beB_cons (d : Nat) (l : List Nat) : beB (d :: l) = beB l ++ be4 d := by simp [beB]
theorem ofMag_beB : ∀ {l : List Nat}, D32 l → ofMag (beB l) = val l
  | [], _ => rfl
  | d :: l, h => by
    rw [beB_cons, ofMag_append, ofMag_be4 h.head, ofMag_beB h.tail, val_cons]
    simp [be4]; omega
theorem beB_length (l : List Nat) : (beB l).length = 4 * l.length := by
  induction l with
  | nil => rfl
  | cons d l ih => rw [beB_cons]; simp [ih, be4]; omega
theorem u8_be4 {d : Nat} (h : d < 4294967296) : (be4 d).map u8 = [.int .u8 ((d : Int) / 16777216), .int .u8 ((d : Int) / 65536 % 256), .int .u8 ((d : Int) / 256 % 256), .int .u8 ((d : Int) % 256)] := by
  simp [be4, UInt8.toNat_ofNat']
  omega

theorem q_mag (a : Sl Nat) (ha : D32 (lst a)) (h1 : (lst a).length ≤ 2 ^ 30) : Cm.q f_bigint_natural_mag [natA a] = some (.str (mag (val (lst a)))) := by
  refine q_by t_bigint_natural_mag (Gives_of rfl ?_)
  simp (disch := omega) [e_bigint_natural_mag, l_bigint_natural_mag_0]
  refine V.loop (fun x : Nat => x ≤ (lst a).length)
    (fun x => (mkL 45 .any [(0, natA a), (3, .gsl 1 ((beB ((lst a).drop x)).map u8)), (4, .int .i64 ((x : Int) - 1))], [])) (fun x => x) ?_ (lst a).length (Nat.le_refl _) ?_
  · intro x hx
    simp
    refine ⟨fun h => ?_, fun h => ?_⟩
    · obtain ⟨i, rfl⟩ : ∃ i, x = i + 1 := ⟨x - 1, by omega⟩
      have la := at0_lt ha i
      have hd : (lst a).drop i = at0 (lst a) i :: (lst a).drop (i + 1) := by rw [List.drop_eq_getElem_cons (by omega), at0_get]
      have hlen := beB_length ((lst a).drop (i + 1))
      rw [List.length_drop] at hlen
      simp (disch := omega)
      refine ⟨i, by omega, by omega, ?_⟩
      rw [hd, beB_cons, List.map_append, u8_be4 la]
    · obtain rfl : x = 0 := by omega
      have hm := mag_strip (beB (lst a))
      rw [ofMag_beB ha] at hm
      have ht := q_TrimLeft1 (beB (lst a)) 0 (by rw [beB_length]; omega) (by decide)
      rw [hm] at ht
      simp [bytesOf_u8, ht]
  · simp [beB]
end Go.Proofs.YteaopgkajbfkeaaGreatDoor
namespace Go.Proofs.YteaopgkajbfkeaaGreatDoor
open Go

theorem q_Len64 {x : Nat} (hx : x < 18446744073709551616) : Cm.q f_math_bits_Len64 [.int .u64 x] = some (.int .i64 (blen x)) := by
  refine q_by t_math_bits_Len64 (Gives_of rfl ?_)
  have tab : ∀ i, i < 256 → (k_39b333ba[i]?).map UInt8.toNat = some (blen i) := by decide +kernel
  have fin : ∀ z : Nat, z < 256 → ∃ b, k_39b333ba[z]? = some b ∧ b.toNat = blen z ∧ blen z ≤ 8 := by
    intro i hi
    have := tab i hi
    simp only [Option.map_eq_some_iff] at this
    obtain ⟨b, h1, h2⟩ := this
    exact ⟨b, h1, h2, blen_le.2 (by omega)⟩
  simp (disch := omega) [e_math_bits_Len64]
  refine ⟨fun h3 => ?_, fun h3 => ?_⟩
  · simp (disch := omega)
    refine ⟨fun h2 => ?_, fun h2 => ?_⟩
    · simp (disch := omega)
      refine ⟨fun h1 => ?_, fun h1 => ?_⟩
      · skip
        obtain ⟨z, hz⟩ : ∃ z, x / 2 ^ 56 = z := ⟨_, rfl⟩
        have hz2 : (x : Int) / 4294967296 / 65536 / 256 = z := by omega
        obtain ⟨b, g1, g2, g3⟩ := fin z (by omega)
        have g4 := blen_shift (n := x) 56 (by omega)
        rw [hz] at g4
        simp (disch := omega) [hz2, g1, g2, g4, Int.add_comm]
      · skip
        obtain ⟨z, hz⟩ : ∃ z, x / 2 ^ 48 = z := ⟨_, rfl⟩
        have hz2 : (x : Int) / 4294967296 / 65536 = z := by omega
        obtain ⟨b, g1, g2, g3⟩ := fin z (by omega)
        have g4 := blen_shift (n := x) 48 (by omega)
        rw [hz] at g4
        simp (disch := omega) [hz2, g1, g2, g4, Int.add_comm]
    · simp (disch := omega)
      refine ⟨fun h1 => ?_, fun h1 => ?_⟩
      · skip
        obtain ⟨z, hz⟩ : ∃ z, x / 2 ^ 40 = z := ⟨_, rfl⟩
        have hz2 : (x : Int) / 4294967296 / 256 = z := by omega
        obtain ⟨b, g1, g2, g3⟩ := fin z (by omega)
        have g4 := blen_shift (n := x) 40 (by omega)
        rw [hz] at g4
        simp (disch := omega) [hz2, g1, g2, g4, Int.add_comm]
      · skip
        obtain ⟨z, hz⟩ : ∃ z, x / 2 ^ 32 = z := ⟨_, rfl⟩
        have hz2 : (x : Int) / 4294967296 = z := by omega
        obtain ⟨b, g1, g2, g3⟩ := fin z (by omega)
        have g4 := blen_shift (n := x) 32 (by omega)
        rw [hz] at g4
        simp (disch := omega) [hz2, g1, g2, g4, Int.add_comm]
  · simp (disch := omega)
    refine ⟨fun h2 => ?_, fun h2 => ?_⟩
    · simp (disch := omega)
      refine ⟨fun h1 => ?_, fun h1 => ?_⟩
      · skip
        obtain ⟨z, hz⟩ : ∃ z, x / 2 ^ 24 = z := ⟨_, rfl⟩
        have hz2 : (x : Int) / 65536 / 256 = z := by omega
        obtain ⟨b, g1, g2, g3⟩ := fin z (by omega)
        have g4 := blen_shift (n := x) 24 (by omega)
        rw [hz] at g4
        simp (disch := omega) [hz2, g1, g2, g4, Int.add_comm]
      · skip
        obtain ⟨z, hz⟩ : ∃ z, x / 2 ^ 16 = z := ⟨_, rfl⟩
        have hz2 : (x : Int) / 65536 = z := by omega
        obtain ⟨b, g1, g2, g3⟩ := fin z (by omega)
        have g4 := blen_shift (n := x) 16 (by omega)
        rw [hz] at g4
        simp (disch := omega) [hz2, g1, g2, g4, Int.add_comm]
    · simp (disch := omega)
      refine ⟨fun h1 => ?_, fun h1 => ?_⟩
      · skip
        obtain ⟨z, hz⟩ : ∃ z, x / 2 ^ 8 = z := ⟨_, rfl⟩
        have hz2 : (x : Int) / 256 = z := by omega
        obtain ⟨b, g1, g2, g3⟩ := fin z (by omega)
        have g4 := blen_shift (n := x) 8 (by omega)
        rw [hz] at g4
        simp (disch := omega) [hz2, g1, g2, g4, Int.add_comm]
      · skip
        obtain ⟨b, g1, g2, g3⟩ := fin x (by omega)
        simp (disch := omega) [g1, g2]
end Go.Proofs.YteaopgkajbfkeaaGreatDoor
namespace Go.Proofs.YteaopgkajbfkeaaGreatDoor
open Go

theorem q_log10Pow2 {k : Nat} (hk : k ≤ 64) : Cm.q f_i_strconv_log10Pow2 [.int .i64 k] = some (.int .i64 (k * 78913 / 262144 : Nat)) := by
  refine q_by t_i_strconv_log10Pow2 (Gives_of rfl ?_)
  simp (disch := omega) [e_i_strconv_log10Pow2]
theorem q_bool2int (b : Bool) : Cm.q f_i_strconv_bool2_int [.bool b] = some (.int .i64 (if b then 1 else 0)) := by
  refine q_by t_i_strconv_bool2_int (Gives_of rfl ?_)
  cases b <;> simp [e_i_strconv_bool2_int]

theorem pow10_get {i : Nat} (h : i < 20) : pow10G[i]? = some (.int .u64 ((10 ^ i : Nat) : Int)) := by
  simp [pow10G, List.getElem?_range h]
theorem GG_pow10 : GG g_uint64pow10 = some pow10G := rfl
@[simp] theorem Cm_g : Cm.g = GG := rfl

/-- The table of the digits: how many there are at least. -/
theorem digits_of (u : Nat) (hu : u < 18446744073709551616) (hu0 : 1 ≤ u) : ∃ k, k ≤ 19 ∧ (k = 0 ∨ 10 ^ k ≤ u) ∧ u < 10 ^ (k + 1) ∧ (blen u * 78913 / 262144) + (if 10 ^ (blen u * 78913 / 262144) ≤ u then 1 else 0) = k + 1 ∧ blen u * 78913 / 262144 < 20 := by
  have h1 : blen u ≤ 64 := blen_le.2 (by omega)
  have h2 := lt_blen u
  have h3 := pow_blen_le (n := u) (by omega)
  have key : ∀ b, b ≤ 64 → 1 ≤ b → (b * 78913 / 262144 = 0 ∨ 10 ^ (b * 78913 / 262144 - 1) ≤ 2 ^ (b - 1)) ∧ b * 78913 / 262144 < 20 ∧ 2 ^ b ≤ 10 ^ (b * 78913 / 262144 + 1) := by decide
  have h4 : 1 ≤ blen u := by
    rw [blen_pos (by omega)]; omega
  obtain ⟨k1, k2, k4⟩ := key _ h1 h4
  generalize blen u * 78913 / 262144 = t at *
  generalize 2 ^ blen u = p at *
  generalize 2 ^ (blen u - 1) = q at *
  by_cases hc : 10 ^ t ≤ u
  · exact ⟨t, by omega, .inr hc, by omega, by rw [if_pos hc], k2⟩
  · have ht : t ≠ 0 := by intro e; subst e; omega
    refine ⟨t - 1, by omega, .inr (by omega), by rw [Nat.sub_add_cancel (by omega)]; omega, by rw [if_neg hc]; omega, k2⟩

theorem q_numDigits {u : Nat} (hu : u < 18446744073709551616) (hu0 : 1 ≤ u) : ∃ k, k ≤ 19 ∧ (k = 0 ∨ 10 ^ k ≤ u) ∧ u < 10 ^ (k + 1) ∧ Cm.q f_i_strconv_numDigits [.int .u64 u] = some (.int .i64 ((k + 1 : Nat) : Int)) := by
  obtain ⟨k, h2, h3, h4, h5, h6⟩ := digits_of u hu hu0
  refine ⟨k, h2, h3, h4, ?_⟩
  refine q_by t_i_strconv_numDigits (Gives_of rfl ?_)
  have hb : blen u ≤ 64 := blen_le.2 (by omega)
  have e1 := q_Len64 hu
  have e2 := q_log10Pow2 hb
  obtain ⟨t, ht⟩ : ∃ t, blen u * 78913 / 262144 = t := ⟨_, rfl⟩
  rw [ht] at e2 h5 h6
  have e3 := pow10_get h6
  have e4 : ((10 ^ t : Nat) : Int) ≤ u ↔ 10 ^ t ≤ u := by omega
  have e5 := q_bool2int (decide (10 ^ t ≤ u))
  obtain ⟨p, hp⟩ : ∃ p, 10 ^ t = p := ⟨_, rfl⟩
  rw [hp] at e3 e5 h5
  have e6 : GG g_uint64pow10 = some pow10G := rfl
  simp (disch := omega) [e_i_strconv_numDigits, e1, e2, e6, e3, e5]
  split at h5 <;> simp [*] <;> omega

/-- An array of bytes by a function. -/
def fa (n : Nat) (f : Nat → Nat) : List AV := (List.range n).map fun p => .int .u8 (f p : Int)
@[simp] theorem fa_length (n : Nat) (f : Nat → Nat) : (fa n f).length = n := by simp [fa]
theorem fa_get {n i : Nat} {f : Nat → Nat} (h : i < n) : (fa n f)[i]? = some (.int .u8 (f i : Int)) := by simp [fa, List.getElem?_range h]
theorem fa_splice {n i x : Nat} {f : Nat → Nat} (h : i < n) : splice (fa n f) i [.int .u8 (x : Int)] = fa n (upd f i x) := by
  rw [splice_one1 (by simpa using h)]
  apply List.ext_getElem
  · simp
  · intro j h1 h2
    simp only [fa, List.getElem_set, List.getElem_map, List.getElem_range, upd]
    by_cases e : i = j
    · subst e; simp
    · rw [if_neg e, if_neg (fun h => e h.symm)]
theorem fa_set {n i x : Nat} {f : Nat → Nat} : (fa n f).set i (.int .u8 (x : Int)) = fa n (upd f i x) := by
  apply List.ext_getElem
  · simp
  · intro j h1 h2
    simp only [fa, List.getElem_set, List.getElem_map, List.getElem_range, upd]
    by_cases e : i = j
    · subst e; simp
    · rw [if_neg e, if_neg (fun h => e h.symm)]
theorem fa_congr {n : Nat} {f g : Nat → Nat} (h : ∀ i, i < n → f i = g i) : fa n f = fa n g := by
  unfold fa
  apply List.map_congr_left
  intro i hi
  rw [h i (List.mem_range.1 hi)]
theorem fa_zero : z_24_uint8.map KV.av = fa 24 fun _ => 0 := rfl
theorem bytesOf_fa {n off len : Nat} {f : Nat → Nat} (h : off + len ≤ n) (hf : ∀ i, off ≤ i → i < off + len → f i < 256) : bytesOf (((fa n f).drop off).take len) = some ((List.range len).map fun k => UInt8.ofNat (f (off + k))) := by
  have e : ((fa n f).drop off).take len = ((List.range len).map fun k => UInt8.ofNat (f (off + k))).map u8 := by
    apply List.ext_getElem
    · simp; omega
    · intro i h1 h2
      simp at h2
      have := hf (off + i) (by omega) (by omega)
      simp (disch := omega) [fa, UInt8.toNat_ofNat']
      omega
  rw [e]
  exact bytesOf_u8 _

theorem smalls_get : ∀ x : Nat, x < 100 → ∃ a b : UInt8, k_e4e7d843[x * 2]? = some a ∧ k_e4e7d843[x * 2 + 1]? = some b ∧ a.toNat = 48 + x / 10 ∧ b.toNat = 48 + x % 10 := by
  have : ∀ x : Nat, x < 100 → (k_e4e7d843[x * 2]?).map UInt8.toNat = some (48 + x / 10) ∧ (k_e4e7d843[x * 2 + 1]?).map UInt8.toNat = some (48 + x % 10) := by decide +kernel
  intro x hx
  obtain ⟨h1, h2⟩ := this x hx
  rw [Option.map_eq_some_iff] at h1 h2
  obtain ⟨a, ha, ha2⟩ := h1
  obtain ⟨b, hb, hb2⟩ := h2
  exact ⟨a, b, ha, hb, ha2, hb2⟩

/-- The state of writing a number. -/
structure FSt where
  i : Nat
  u : Nat
  f : Nat → Nat

/-- The digits from a place on are written. -/
def Wr10 (U nd i : Nat) (f0 f : Nat → Nat) : Prop := ∀ p, f p = if 1 + i ≤ p ∧ p ≤ nd then 48 + U / 10 ^ (nd - p) % 10 else f0 p

theorem Wr10.pair {U nd i : Nat} {f0 f : Nat → Nat} (h : Wr10 U nd (i + 2) f0 f) (hi : i + 2 ≤ nd) : Wr10 U nd i f0 (upd (upd f (i + 2) (48 + U / 10 ^ (nd - (i + 2)) % 10)) (i + 1) (48 + U / 10 ^ (nd - (i + 2)) / 10 % 10)) := by
  intro p
  simp only [upd]
  by_cases h1 : p = i + 1
  · subst h1
    rw [if_pos rfl, if_pos (by omega), Nat.div_div_eq_div_mul, ← Nat.pow_succ]
    congr 4
    omega
  · rw [if_neg h1]
    by_cases h2 : p = i + 2
    · subst h2
      rw [if_pos rfl, if_pos (by omega)]
    · rw [if_neg h2, h p]
      by_cases h3 : 1 + (i + 2) ≤ p ∧ p ≤ nd
      · rw [if_pos h3, if_pos (by omega)]
      · rw [if_neg h3, if_neg (by omega)]
theorem Wr10.one {U nd : Nat} {f0 f : Nat → Nat} (h : Wr10 U nd 1 f0 f) (hi : 1 ≤ nd) : Wr10 U nd 0 f0 (upd f 1 (48 + U / 10 ^ (nd - 1) % 10)) := by
  intro p
  simp only [upd]
  by_cases h1 : p = 1
  · subst h1
    rw [if_pos rfl, if_pos (by omega)]
  · rw [if_neg h1, h p]
    by_cases h3 : 1 + 1 ≤ p ∧ p ≤ nd
    · rw [if_pos h3, if_pos (by omega)]
    · rw [if_neg h3, if_neg (by omega)]

theorem div_step {U e k : Nat} : U / 10 ^ e / 10 ^ k = U / 10 ^ (e + k) := by rw [Nat.div_div_eq_div_mul, Nat.pow_add]

set_option maxHeartbeats 4000000 in
theorem m_formatBase10 {nd U : Nat} {f0 : Nat → Nat} (h1 : 1 ≤ nd) (h2 : nd ≤ 20) (hU : U < 10 ^ nd) (hU2 : U < 18446744073709551616) :
    Cm.m f_i_strconv_formatBase10 [.osl 0 1 nd 23, .int .u64 U] [⟨fa 24 f0, 1, false, false⟩] = some (.tup [], [⟨fa 24 fun p => if 1 ≤ p ∧ p ≤ nd then 48 + U / 10 ^ (nd - p) % 10 else f0 p, 1, false, false⟩]) := by
  refine m_by t_i_strconv_formatBase10 (Gives_of rfl ?_)
  simp (disch := omega) [e_i_strconv_formatBase10, l_i_strconv_formatBase10_0]
  refine V.loop (fun s : FSt => s.i ≤ nd ∧ s.u = U / 10 ^ (nd - s.i) ∧ s.u < 10 ^ s.i ∧ Wr10 U nd s.i f0 s.f)
    (fun s => (mkL 167 .any [(0, .osl 0 1 nd 23), (1, .int .u64 s.u), (4, .int .i64 s.i)], [⟨fa 24 s.f, 1, false, false⟩])) (fun s => s.i) ?_ ⟨nd, U, f0⟩ ⟨Nat.le_refl _, by simp, hU, ?_⟩ ?_
  · rintro ⟨i, u, f⟩ ⟨hi, hu, hlt, hw⟩
    dsimp only at hi hu hlt hw
    have hu64 : u < 18446744073709551616 := by
      have : u ≤ U := by rw [hu]; exact Nat.div_le_self _ _
      omega
    simp
    refine ⟨fun h8 => ?_, fun h8 => ?_⟩
    · obtain ⟨j, rfl⟩ : ∃ j, i = j + 8 := ⟨i - 8, by omega⟩
      obtain ⟨us, hus⟩ : ∃ x, u % 100000000 = x := ⟨_, rfl⟩
      have husI : (u : Int) % 100000000 = us := by omega
      obtain ⟨a1, b1, s1, t1, v1, w1⟩ := smalls_get (us % 10000 % 100) (by omega)
      obtain ⟨a2, b2, s2, t2, v2, w2⟩ := smalls_get (us % 10000 / 100) (by omega)
      obtain ⟨a3, b3, s3, t3, v3, w3⟩ := smalls_get (us / 10000 % 100) (by omega)
      obtain ⟨a4, b4, s4, t4, v4, w4⟩ := smalls_get (us / 10000 / 100) (by omega)
      obtain ⟨x1, e1⟩ : ∃ x, us % 10000 % 100 = x := ⟨_, rfl⟩
      obtain ⟨x2, e2⟩ : ∃ x, us % 10000 / 100 = x := ⟨_, rfl⟩
      obtain ⟨x3, e3⟩ : ∃ x, us / 10000 % 100 = x := ⟨_, rfl⟩
      obtain ⟨x4, e4⟩ : ∃ x, us / 10000 / 100 = x := ⟨_, rfl⟩
      rw [e1] at s1 t1 v1 w1
      rw [e2] at s2 t2 v2 w2
      rw [e3] at s3 t3 v3 w3
      rw [e4] at s4 t4 v4 w4
      have i1 : (us : Int) % 10000 % 100 = x1 := by omega
      have i2 : (us : Int) % 10000 / 100 = x2 := by omega
      have i3 : (us : Int) / 10000 % 100 = x3 := by omega
      have i4 : (us : Int) / 10000 / 100 = x4 := by omega
      simp (disch := omega) [husI, i1, i2, i3, i4, Int.add_sub_assoc, s1, t1, s2, t2, s3, t3, s4, t4, fa_splice]
      have E : ∀ k, k ≤ 8 → U / 10 ^ (nd - (j + (8 - k))) = u / 10 ^ k := by
        intro k hk
        rw [hu, div_step, show nd - (j + (8 - k)) = nd - (j + 8) + k by omega]
      have w8 := hw
      have p1 := Wr10.pair (i := j + 6) hw (by omega)
      rw [E 0 (by omega)] at p1
      have p2 := Wr10.pair (i := j + 4) p1 (by omega)
      rw [E 2 (by omega)] at p2
      have p3 := Wr10.pair (i := j + 2) p2 (by omega)
      rw [E 4 (by omega)] at p3
      have p4 := Wr10.pair (i := j) p3 (by omega)
      rw [E 6 (by omega)] at p4
      simp only [fa_set]
      refine ⟨⟨j, u / 100000000, _⟩, ⟨by simp only; omega, ?_, ?_, p4⟩, by simp, by simp, ?_⟩
      · exact (E 8 (by omega)).symm
      · simp only
        rw [Nat.div_lt_iff_lt_mul (by omega), Nat.mul_comm]
        rw [Nat.pow_add, Nat.mul_comm] at hlt
        exact hlt
      · rw [v1, w1, v2, w2, v3, w3, v4, w4]
        have d : x1 % 10 = u / 10 ^ 0 % 10 ∧ x1 / 10 = u / 10 ^ 0 / 10 % 10 ∧ x2 % 10 = u / 10 ^ 2 % 10 ∧ x2 / 10 = u / 10 ^ 2 / 10 % 10 ∧ x3 % 10 = u / 10 ^ 4 % 10 ∧ x3 / 10 = u / 10 ^ 4 / 10 % 10 ∧ x4 % 10 = u / 10 ^ 6 % 10 ∧ x4 / 10 = u / 10 ^ 6 / 10 % 10 := by omega
        obtain ⟨d1, d2, d3, d4, d5, d6, d7, d8⟩ := d
        rw [d1, d2, d3, d4, d5, d6, d7, d8]
        rw [show 1 + (j + 7) = j + 6 + 2 by omega, show 1 + (j + 6) = j + 6 + 1 by omega, show 1 + (j + 5) = j + 4 + 2 by omega, show 1 + (j + 4) = j + 4 + 1 by omega, show 1 + (j + 3) = j + 2 + 2 by omega, show 1 + (j + 2) = j + 2 + 1 by omega, show 1 + (j + 1) = j + 2 by omega, show 1 + j = j + 1 by omega]
        rfl
    · have fin2 : ∀ (f : Nat → Nat) (u : Nat), u = U / 10 ^ (nd - 1) → u < 10 → Wr10 U nd 1 f0 f → 1 ≤ nd → fa 24 (upd f 1 (48 + u)) = fa 24 fun p => if 1 ≤ p ∧ p ≤ nd then 48 + U / 10 ^ (nd - p) % 10 else f0 p := by
        intro f u h3 h4 h5 h6
        have := Wr10.one h5 h6
        apply fa_congr
        intro p _
        have e : 48 + u = 48 + U / 10 ^ (nd - 1) % 10 := by rw [← h3]; omega
        rw [e, this p]
      have fin0 : ∀ (f : Nat → Nat), Wr10 U nd 0 f0 f → fa 24 f = fa 24 fun p => if 1 ≤ p ∧ p ≤ nd then 48 + U / 10 ^ (nd - p) % 10 else f0 p := by
        intro f h5
        apply fa_congr
        intro p _
        rw [h5 p]
      have hu32 : u < 4294967296 := by
        have : (10 : Nat) ^ i ≤ 10 ^ 7 := Nat.pow_le_pow_right (by omega) (by omega)
        omega
      -- what is left: fewer than eight digits
      have hi7 : i = 0 ∨ i = 1 ∨ i = 2 ∨ i = 3 ∨ i = 4 ∨ i = 5 ∨ i = 6 ∨ i = 7 := by omega
      rcases hi7 with rfl | rfl | rfl | rfl | rfl | rfl | rfl | rfl
      · have E : ∀ k, k ≤ 0 → U / 10 ^ (nd - (0 - k)) = u / 10 ^ k := by
          intro k hk
          rw [hu, div_step, show nd - (0 - k) = nd - 0 + k by omega]
        simp (disch := omega) [Int.add_sub_assoc, fa_set]
        exact fin0 _ hw
      · have E : ∀ k, k ≤ 1 → U / 10 ^ (nd - (1 - k)) = u / 10 ^ k := by
          intro k hk
          rw [hu, div_step, show nd - (1 - k) = nd - 1 + k by omega]
        obtain ⟨z, hz⟩ : ∃ z, 48 + u = z := ⟨_, rfl⟩
        have hzI : 48 + (u : Int) = (z : Int) := by omega
        have hz256 : z < 256 := by omega
        simp (disch := omega) [hzI, Int.add_sub_assoc, fa_set]
        rw [← hz]
        exact fin2 _ _ (by rw [show u = u / 10 ^ 0 by omega, ← E 0 (by omega)]) (by omega) hw (by omega)
      · have E : ∀ k, k ≤ 2 → U / 10 ^ (nd - (2 - k)) = u / 10 ^ k := by
          intro k hk
          rw [hu, div_step, show nd - (2 - k) = nd - 2 + k by omega]
        obtain ⟨a3, b3, s3, t3, v3, w3⟩ := smalls_get (u % 100) (by omega)
        obtain ⟨x3, e3⟩ : ∃ x, u % 100 = x := ⟨_, rfl⟩
        rw [e3] at s3 t3 v3 w3
        have i3 : (u : Int) % 100 = x3 := by omega
        have p3 := Wr10.pair (i := 0) hw (by omega)
        rw [E 0 (by omega)] at p3
        simp (disch := omega) [i3, s3, t3, Int.add_sub_assoc, fa_set]
        rw [v3, w3, show x3 % 10 = u / 10 ^ 0 % 10 by omega, show x3 / 10 = u / 10 ^ 0 / 10 % 10 by omega]
        exact fin0 _ p3
      · have E : ∀ k, k ≤ 3 → U / 10 ^ (nd - (3 - k)) = u / 10 ^ k := by
          intro k hk
          rw [hu, div_step, show nd - (3 - k) = nd - 3 + k by omega]
        obtain ⟨a3, b3, s3, t3, v3, w3⟩ := smalls_get (u % 100) (by omega)
        obtain ⟨x3, e3⟩ : ∃ x, u % 100 = x := ⟨_, rfl⟩
        rw [e3] at s3 t3 v3 w3
        have i3 : (u : Int) % 100 = x3 := by omega
        have p3 := Wr10.pair (i := 1) hw (by omega)
        rw [E 0 (by omega)] at p3
        obtain ⟨z, hz⟩ : ∃ z, 48 + u / 100 = z := ⟨_, rfl⟩
        have hzI : 48 + (u : Int) / 100 = (z : Int) := by omega
        have hz256 : z < 256 := by omega
        simp (disch := omega) [i3, s3, t3, hzI, Int.add_sub_assoc, fa_set]
        rw [v3, w3, show x3 % 10 = u / 10 ^ 0 % 10 by omega, show x3 / 10 = u / 10 ^ 0 / 10 % 10 by omega]
        rw [← hz]
        exact fin2 _ _ (by rw [show u / 100 = u / 10 ^ 2 by omega, ← E 2 (by omega)]) (by omega) p3 (by omega)
      · have E : ∀ k, k ≤ 4 → U / 10 ^ (nd - (4 - k)) = u / 10 ^ k := by
          intro k hk
          rw [hu, div_step, show nd - (4 - k) = nd - 4 + k by omega]
        obtain ⟨a1, b1, s1, t1, v1, w1⟩ := smalls_get (u % 10000 % 100) (by omega)
        obtain ⟨a2, b2, s2, t2, v2, w2⟩ := smalls_get (u % 10000 / 100) (by omega)
        obtain ⟨x1, e1⟩ : ∃ x, u % 10000 % 100 = x := ⟨_, rfl⟩
        obtain ⟨x2, e2⟩ : ∃ x, u % 10000 / 100 = x := ⟨_, rfl⟩
        rw [e1] at s1 t1 v1 w1
        rw [e2] at s2 t2 v2 w2
        have i1 : (u : Int) % 10000 % 100 = x1 := by omega
        have i2 : (u : Int) % 10000 / 100 = x2 := by omega
        have p1 := Wr10.pair (i := 2) hw (by omega)
        rw [E 0 (by omega)] at p1
        have p2 := Wr10.pair (i := 0) p1 (by omega)
        rw [E 2 (by omega)] at p2
        simp (disch := omega) [i1, i2, s1, t1, s2, t2, Int.add_sub_assoc, fa_set]
        rw [v1, w1, v2, w2, show x1 % 10 = u / 10 ^ 0 % 10 by omega, show x1 / 10 = u / 10 ^ 0 / 10 % 10 by omega, show x2 % 10 = u / 10 ^ 2 % 10 by omega, show x2 / 10 = u / 10 ^ 2 / 10 % 10 by omega]
        exact fin0 _ p2
      · have E : ∀ k, k ≤ 5 → U / 10 ^ (nd - (5 - k)) = u / 10 ^ k := by
          intro k hk
          rw [hu, div_step, show nd - (5 - k) = nd - 5 + k by omega]
        obtain ⟨a1, b1, s1, t1, v1, w1⟩ := smalls_get (u % 10000 % 100) (by omega)
        obtain ⟨a2, b2, s2, t2, v2, w2⟩ := smalls_get (u % 10000 / 100) (by omega)
        obtain ⟨x1, e1⟩ : ∃ x, u % 10000 % 100 = x := ⟨_, rfl⟩
        obtain ⟨x2, e2⟩ : ∃ x, u % 10000 / 100 = x := ⟨_, rfl⟩
        rw [e1] at s1 t1 v1 w1
        rw [e2] at s2 t2 v2 w2
        have i1 : (u : Int) % 10000 % 100 = x1 := by omega
        have i2 : (u : Int) % 10000 / 100 = x2 := by omega
        have p1 := Wr10.pair (i := 3) hw (by omega)
        rw [E 0 (by omega)] at p1
        have p2 := Wr10.pair (i := 1) p1 (by omega)
        rw [E 2 (by omega)] at p2
        obtain ⟨z, hz⟩ : ∃ z, 48 + u / 10000 = z := ⟨_, rfl⟩
        have hzI : 48 + (u : Int) / 10000 = (z : Int) := by omega
        have hz256 : z < 256 := by omega
        simp (disch := omega) [i1, i2, s1, t1, s2, t2, hzI, Int.add_sub_assoc, fa_set]
        rw [v1, w1, v2, w2, show x1 % 10 = u / 10 ^ 0 % 10 by omega, show x1 / 10 = u / 10 ^ 0 / 10 % 10 by omega, show x2 % 10 = u / 10 ^ 2 % 10 by omega, show x2 / 10 = u / 10 ^ 2 / 10 % 10 by omega]
        rw [← hz]
        exact fin2 _ _ (by rw [show u / 10000 = u / 10 ^ 4 by omega, ← E 4 (by omega)]) (by omega) p2 (by omega)
      · have E : ∀ k, k ≤ 6 → U / 10 ^ (nd - (6 - k)) = u / 10 ^ k := by
          intro k hk
          rw [hu, div_step, show nd - (6 - k) = nd - 6 + k by omega]
        obtain ⟨a1, b1, s1, t1, v1, w1⟩ := smalls_get (u % 10000 % 100) (by omega)
        obtain ⟨a2, b2, s2, t2, v2, w2⟩ := smalls_get (u % 10000 / 100) (by omega)
        obtain ⟨x1, e1⟩ : ∃ x, u % 10000 % 100 = x := ⟨_, rfl⟩
        obtain ⟨x2, e2⟩ : ∃ x, u % 10000 / 100 = x := ⟨_, rfl⟩
        rw [e1] at s1 t1 v1 w1
        rw [e2] at s2 t2 v2 w2
        have i1 : (u : Int) % 10000 % 100 = x1 := by omega
        have i2 : (u : Int) % 10000 / 100 = x2 := by omega
        have p1 := Wr10.pair (i := 4) hw (by omega)
        rw [E 0 (by omega)] at p1
        have p2 := Wr10.pair (i := 2) p1 (by omega)
        rw [E 2 (by omega)] at p2
        obtain ⟨a3, b3, s3, t3, v3, w3⟩ := smalls_get (u / 10000 % 100) (by omega)
        obtain ⟨x3, e3⟩ : ∃ x, u / 10000 % 100 = x := ⟨_, rfl⟩
        rw [e3] at s3 t3 v3 w3
        have i3 : (u : Int) / 10000 % 100 = x3 := by omega
        have p3 := Wr10.pair (i := 0) p2 (by omega)
        rw [E 4 (by omega)] at p3
        simp (disch := omega) [i1, i2, s1, t1, s2, t2, i3, s3, t3, Int.add_sub_assoc, fa_set]
        rw [v1, w1, v2, w2, show x1 % 10 = u / 10 ^ 0 % 10 by omega, show x1 / 10 = u / 10 ^ 0 / 10 % 10 by omega, show x2 % 10 = u / 10 ^ 2 % 10 by omega, show x2 / 10 = u / 10 ^ 2 / 10 % 10 by omega, v3, w3, show x3 % 10 = u / 10 ^ 4 % 10 by omega, show x3 / 10 = u / 10 ^ 4 / 10 % 10 by omega]
        exact fin0 _ p3
      · have E : ∀ k, k ≤ 7 → U / 10 ^ (nd - (7 - k)) = u / 10 ^ k := by
          intro k hk
          rw [hu, div_step, show nd - (7 - k) = nd - 7 + k by omega]
        obtain ⟨a1, b1, s1, t1, v1, w1⟩ := smalls_get (u % 10000 % 100) (by omega)
        obtain ⟨a2, b2, s2, t2, v2, w2⟩ := smalls_get (u % 10000 / 100) (by omega)
        obtain ⟨x1, e1⟩ : ∃ x, u % 10000 % 100 = x := ⟨_, rfl⟩
        obtain ⟨x2, e2⟩ : ∃ x, u % 10000 / 100 = x := ⟨_, rfl⟩
        rw [e1] at s1 t1 v1 w1
        rw [e2] at s2 t2 v2 w2
        have i1 : (u : Int) % 10000 % 100 = x1 := by omega
        have i2 : (u : Int) % 10000 / 100 = x2 := by omega
        have p1 := Wr10.pair (i := 5) hw (by omega)
        rw [E 0 (by omega)] at p1
        have p2 := Wr10.pair (i := 3) p1 (by omega)
        rw [E 2 (by omega)] at p2
        obtain ⟨a3, b3, s3, t3, v3, w3⟩ := smalls_get (u / 10000 % 100) (by omega)
        obtain ⟨x3, e3⟩ : ∃ x, u / 10000 % 100 = x := ⟨_, rfl⟩
        rw [e3] at s3 t3 v3 w3
        have i3 : (u : Int) / 10000 % 100 = x3 := by omega
        have p3 := Wr10.pair (i := 1) p2 (by omega)
        rw [E 4 (by omega)] at p3
        obtain ⟨z, hz⟩ : ∃ z, 48 + u / 10000 / 100 = z := ⟨_, rfl⟩
        have hzI : 48 + (u : Int) / 10000 / 100 = (z : Int) := by omega
        have hz256 : z < 256 := by omega
        simp (disch := omega) [i1, i2, s1, t1, s2, t2, i3, s3, t3, hzI, Int.add_sub_assoc, fa_set]
        rw [v1, w1, v2, w2, show x1 % 10 = u / 10 ^ 0 % 10 by omega, show x1 / 10 = u / 10 ^ 0 / 10 % 10 by omega, show x2 % 10 = u / 10 ^ 2 % 10 by omega, show x2 / 10 = u / 10 ^ 2 / 10 % 10 by omega, v3, w3, show x3 % 10 = u / 10 ^ 4 % 10 by omega, show x3 / 10 = u / 10 ^ 4 / 10 % 10 by omega]
        rw [← hz]
        exact fin2 _ _ (by rw [show u / 10000 / 100 = u / 10 ^ 6 by omega, ← E 6 (by omega)]) (by omega) p3 (by omega)
  · intro p
    show f0 p = if 1 + nd ≤ p ∧ p ≤ nd then _ else f0 p
    rw [if_neg (by omega)]
  · simp
end Go.Proofs.YteaopgkajbfkeaaGreatDoor
namespace Go.Proofs.YteaopgkajbfkeaaGreatDoor
open Go

theorem digits_get : ∀ x : Nat, x < 10 → k_d3dab414[x]? = some (UInt8.ofNat (48 + x)) := by decide +kernel

theorem q_smallS {n : Nat} (h : n < 100) : Cm.q f_i_strconv_small [.int .i64 n] = some (.str (dec n)) := by
  refine q_by t_i_strconv_small (Gives_of rfl ?_)
  simp [e_i_strconv_small]
  refine ⟨fun h1 => ?_, fun h1 => ?_⟩
  · have hl : k_d3dab414.length = 36 := by decide +kernel
    have h2 : (k_d3dab414.take (n + 1)).drop n = [UInt8.ofNat (48 + n)] := by
      have := digits_get n (by omega)
      rw [List.take_add_one, this]
      have : (k_d3dab414.take n).length = n := by simp; omega
      simp [this]
    rw [dec_lt (by omega), ← h2]
    simp (disch := omega) [hl]
  · have hl : k_e4e7d843.length = 200 := by decide +kernel
    obtain ⟨a, b, h2, h3, h4, h5⟩ := smalls_get n h
    have ha : a = UInt8.ofNat (48 + n / 10) := UInt8.toNat_inj.1 (by rw [h4, UInt8.toNat_ofNat']; omega)
    have hb : b = UInt8.ofNat (48 + n % 10) := UInt8.toNat_inj.1 (by rw [h5, UInt8.toNat_ofNat']; omega)
    have h6 : (k_e4e7d843.take (n * 2 + 2)).drop (n * 2) = [a, b] := by
      rw [show n * 2 + 2 = n * 2 + 1 + 1 by omega, List.take_add_one, List.take_add_one, h2, h3]
      have : (k_e4e7d843.take (n * 2)).length = n * 2 := by simp; omega
      simp [this]
    simp (disch := omega) [hl, h6]
    rw [dec_ge (by omega), dec_lt (by omega), ha, hb]
    rfl

theorem range_succ_map {α : Type} (f : Nat → α) (n : Nat) : (List.range (n + 1)).map f = f 0 :: (List.range n).map fun k => f (k + 1) := by
  rw [List.range_succ_eq_map]; simp [Function.comp_def]

theorem q_FormatInt {z : Int} (h1 : -9223372036854775808 ≤ z) (h2 : z < 9223372036854775808) : Cm.q f_i_strconv_FormatInt [.int .i64 z, .int .i64 10] = some (.str (itoa z)) := by
  refine q_by t_i_strconv_FormatInt (Gives_of rfl ?_)
  by_cases hs : 0 ≤ z ∧ z < 100
  · obtain ⟨n, rfl⟩ : ∃ n : Nat, z = n := ⟨z.toNat, by omega⟩
    have e := q_smallS (n := n) (by omega)
    have e2 : itoa (n : Int) = dec n := by simp [itoa]
    rw [e2]
    simp (disch := omega) [e_i_strconv_FormatInt, e]
  · obtain ⟨u, hu⟩ : ∃ u, z.natAbs = u := ⟨_, rfl⟩
    obtain ⟨f0, hf0⟩ : ∃ f : Nat → Nat, f = fun _ => 0 := ⟨_, rfl⟩
    have hz := fa_zero
    rw [← hf0] at hz
    have hu0 : 1 ≤ u := by omega
    obtain ⟨k, k2, k3, k4, hnd⟩ := q_numDigits (u := u) (by omega) hu0
    have hf := m_formatBase10 (nd := k + 1) (U := u) (f0 := f0) (by omega) (by omega) k4 (by omega)
    have hd := dec_eq (n := u) (k := k) k4 k3
    obtain ⟨g, hg⟩ : ∃ g : Nat → Nat, g = fun p => if 1 ≤ p ∧ p ≤ k + 1 then 48 + u / 10 ^ (k + 1 - p) % 10 else f0 p := ⟨_, rfl⟩
    rw [← hg] at hf
    have hgd : ∀ i, i < k + 1 → g (1 + i) = 48 + u / 10 ^ (k - i) % 10 := by
      intro i hi
      rw [hg]
      simp only
      rw [if_pos (by omega), show k + 1 - (1 + i) = k - i by omega]
    by_cases hn : z < 0
    · have hzu : z = -(u : Int) := by omega
      subst hzu
      have hi : itoa (-(u : Int)) = 45 :: dec u := by simp [itoa]; omega
      have e64 : -(-(u : Int) % 18446744073709551616) % 18446744073709551616 = u := by omega
      have hb := bytesOf_fa (n := 24) (off := 0) (len := k + 2) (f := upd g 0 45) (by omega) (by
        intro i h3 h4
        simp only [upd]
        split
        · omega
        · have := hgd (i - 1) (by omega)
          rw [show 1 + (i - 1) = i by omega] at this
          rw [this]; omega)
      have hb2 : ((List.range (k + 2)).map fun j => UInt8.ofNat (upd g 0 45 (0 + j))) = 45 :: dec u := by
        rw [range_succ_map (n := k + 1), hd]
        refine List.cons_eq_cons.2 ⟨rfl, ?_⟩
        apply List.map_congr_left
        intro i hi
        have := hgd i (List.mem_range.1 hi)
        rw [Nat.add_comm] at this
        simp [upd, this]
      rw [hb2] at hb
      have hc := chunks_one (n := k + 2) (cs := (fa 24 (upd g 0 45)).drop 0) (by simp; omega)
      have hk2 : 1 + (k + 1) = k + 2 := by omega
      have hs0 := fa_set (n := 24) (i := 0) (x := 45) (f := g)
      simp at hnd hf hs0
      rw [List.drop_zero] at hc hb
      simp (disch := omega) [-chunks_e1, e_i_strconv_FormatInt, hz, e64, hnd, hf, hs0, hk2, hc, hb, hi]
    · have hzu : z = (u : Int) := by omega
      subst hzu
      have hi : itoa (u : Int) = dec u := by simp [itoa]
      have hb := bytesOf_fa (n := 24) (off := 1) (len := k + 1) (f := g) (by omega) (by
        intro i h3 h4
        have := hgd (i - 1) (by omega)
        rw [show 1 + (i - 1) = i by omega] at this
        rw [this]; omega)
      have hb2 : ((List.range (k + 1)).map fun j => UInt8.ofNat (g (1 + j))) = dec u := by
        rw [hd]
        apply List.map_congr_left
        intro i hi
        rw [hgd i (List.mem_range.1 hi)]
      rw [hb2] at hb
      have hc := chunks_one (n := k + 1) (cs := (fa 24 g).drop 1) (by simp; omega)
      simp at hnd hf
      rw [List.drop_one] at hc hb
      simp (disch := omega) [-chunks_e1, e_i_strconv_FormatInt, hz, hnd, hf, hc, hb, hi]

theorem q_Itoa {z : Int} (h1 : -9223372036854775808 ≤ z) (h2 : z < 9223372036854775808) : Cm.q f_strconv_Itoa [.int .i64 z] = some (.str (itoa z)) := by
  refine q_by t_strconv_Itoa (Gives_of rfl ?_)
  have h : Cm.q f_i_strconv_Itoa [.int .i64 z] = some (.str (itoa z)) := by
    refine q_by t_i_strconv_Itoa (Gives_of rfl ?_)
    have := q_FormatInt h1 h2
    simp [e_i_strconv_Itoa, this]
  simp [e_strconv_Itoa, h]
end Go.Proofs.YteaopgkajbfkeaaGreatDoor
namespace Go.Proofs.YteaopgkajbfkeaaGreatDoor
open Go

abbrev intA (a : GInt) : AV := .agg (GInt.C a)
@[simp] theorem GInt.fold {b : Bool} {m : List UInt8} : AV.agg [.bool b, .str m] = .agg (GInt.C ⟨b, m⟩) := rfl
/-- An integer as it lies in memory. -/
def ofZ (z : Int) : GInt := ⟨decide (z < 0), mag z.natAbs⟩
def okI (a : GInt) : Bool := if a.mag = [] then !a.neg else a.mag.head? != some 0
/-- At most so many bytes. -/
def Bd (n : Nat) (z : Int) : Prop := z.natAbs < 256 ^ n

theorem ofZ_zero : ofZ 0 = ⟨false, []⟩ := by simp [ofZ]
theorem okI_ofZ (z : Int) : okI (ofZ z) = true := by
  unfold okI ofZ
  simp only [mag_eq_nil]
  split
  · rename_i h; simp; omega
  · simp only [bne_iff_ne, ne_eq]
    intro h
    exact mag_lz _ _ h rfl
theorem okI_iff {a : GInt} : okI a = true ↔ ∃ z, a = ofZ z := by
  constructor
  · intro h
    rcases a with ⟨n, m⟩
    unfold okI at h
    simp only at h
    split at h
    · rename_i e
      subst e
      simp at h
      exact ⟨0, by rw [ofZ_zero, h]⟩
    · rename_i e
      have hl : Lz m := by
        intro x hx e2
        subst e2
        rw [hx] at h
        simp at h
      have hp : ofMag m ≠ 0 := fun e2 => e ((ofMag_eq_zero hl).1 e2)
      cases n with
      | false =>
        refine ⟨(ofMag m : Int), ?_⟩
        simp only [ofZ, Int.natAbs_natCast, mag_ofMag hl]
        congr 1
      | true =>
        refine ⟨-(ofMag m : Int), ?_⟩
        simp only [ofZ, Int.natAbs_neg, Int.natAbs_natCast, mag_ofMag hl]
        congr 1
        simp; omega
  · rintro ⟨z, rfl⟩; exact okI_ofZ z
theorem ofZ_inj {a b : Int} (h : ofZ a = ofZ b) : a = b := by
  simp only [ofZ, GInt.mk.injEq] at h
  have h1 := mag_inj h.2
  have h2 : a < 0 ↔ b < 0 := by simpa using h.1
  omega
theorem ofZ_eq {a b : Int} : ofZ a = ofZ b ↔ a = b := ⟨ofZ_inj, fun h => by rw [h]⟩

@[simp] theorem ofZ_mag_nil {z : Int} : (ofZ z).mag = [] ↔ z = 0 := by
  simp only [ofZ, mag_eq_nil]; omega
@[simp] theorem ofZ_neg' {z : Int} : (ofZ z).neg = decide (z < 0) := rfl
theorem Bd.nat {n : Nat} {z : Int} (h : Bd n z) : z.natAbs < 256 ^ n := h
theorem Bd.mono {n m : Nat} {z : Int} (h : Bd n z) (hm : n ≤ m) : Bd m z := Nat.lt_of_lt_of_le h (Nat.pow_le_pow_right (by omega) hm)
theorem Bd.add {n m : Nat} {a b : Int} (ha : Bd n a) (hb : Bd m b) : Bd (max n m + 1) (a + b) := by
  have h1 := ha.mono (Nat.le_max_left n m)
  have h2 := hb.mono (Nat.le_max_right n m)
  unfold Bd at *
  rw [Nat.pow_succ]
  omega
theorem Bd.neg {n : Nat} {a : Int} (ha : Bd n a) : Bd n (-a) := by unfold Bd at *; omega
theorem Bd.sub {n m : Nat} {a b : Int} (ha : Bd n a) (hb : Bd m b) : Bd (max n m + 1) (a - b) := by
  rw [Int.sub_eq_add_neg]; exact ha.add hb.neg
theorem Bd.mul {n m : Nat} {a b : Int} (ha : Bd n a) (hb : Bd m b) : Bd (n + m) (a * b) := by
  unfold Bd at *
  rw [Int.natAbs_mul, Nat.pow_add]
  exact Nat.mul_lt_mul'' ha hb
theorem Bd.zero {n : Nat} : Bd n 0 := by unfold Bd; exact Nat.pow_pos (by omega)

theorem dl {v n : Nat} (h : v < 256 ^ n) : (dig v).length ≤ n := by
  rw [dig_length_le]
  exact Nat.lt_of_lt_of_le h (Nat.pow_le_pow_left (by omega) n)

theorem x_of {v n : Nat} (h : v < 256 ^ n) (hn : n ≤ 2 ^ 28) : Cm.q f_bigint_of [.str (mag v)] = some (natA (some (dig v))) := by
  rw [q_bigint_of _ (by have := mag_length_le.2 h; omega), ofMag_mag]

theorem q_Valid (a : GInt) : Cm.q f_bigint_Valid [intA a] = some (.bool (okI a)) := by
  refine q_by t_bigint_Valid (Gives_of rfl ?_)
  rcases a with ⟨n, m⟩
  simp [e_bigint_Valid]
  refine ⟨fun h => ?_, fun h => ?_⟩
  · simp [okI, h]
  · cases m with
    | nil => exact absurd rfl h
    | cons x m =>
      by_cases hx : x = 0
      · subst hx; simp [okI]
      · have h1 : ¬ x.toNat = 0 := fun e => hx (UInt8.toNat_inj.1 (by simpa using e))
        have h2 : ¬ (x.toNat : Int) = 0 := by omega
        have e1 : ((x.toNat : Int) == 0) = false := by simpa using h1
        have e2 : (x == 0) = false := by simp [hx]
        simp [okI, hx, bne, e1, e2]

theorem q_with {a : Sl Nat} {v n : Nat} (ha : lst a = dig v) (hv : v < 256 ^ n) (hn : n ≤ 2 ^ 28) (neg : Bool) : Cm.q f_bigint_natural_with [natA a, .bool neg] = some (intA (ofZ (if neg then -(v : Int) else v))) := by
  refine q_by t_bigint_natural_with (Gives_of rfl ?_)
  have hl := dl hv
  have hm := q_mag a (by rw [ha]; exact dig_dg v) (by rw [ha]; omega)
  rw [ha, val_dig] at hm
  have hnil : (mag v = []) ↔ v = 0 := mag_eq_nil
  cases neg with
  | false =>
    simp [e_bigint_natural_with, hm]
    have h0 : ¬ (v : Int) < 0 := by omega
    simp [ofZ, h0]
  | true =>
    simp [e_bigint_natural_with, hm]
    by_cases hv0 : v = 0
    · subst hv0; simp [ofZ]
    · have h1 : 0 < v := by omega
      have h2 : (mag v).isEmpty = false := by simp [hnil, hv0]
      simp [ofZ, h1, h2]

theorem q_word {n : Nat} (hn : n < 18446744073709551616) : Cm.q f_bigint_word [.int .u64 n] = some (natA (some (dig n))) := by
  refine q_by t_bigint_word (Gives_of rfl ?_)
  have ht := q_trim_some (l := [n % 4294967296, n / 4294967296]) (by simp) (.cons (by omega) (.cons (by omega) .nil))
  have e : val [n % 4294967296, n / 4294967296] = n := by simp; omega
  rw [e] at ht
  have ht2 : Cm.q f_bigint_natural_trim [.sl 1 [.int .u32 ((n : Int) % 4294967296), .int .u32 ((n : Int) / 4294967296)]] = some (natA (some (dig n))) := by
    rw [← ht]
    simp [slA]
  simp (disch := omega) [e_bigint_word, ht2]

theorem lt256 {n : Nat} (h : n < 18446744073709551616) : n < 256 ^ 8 := by omega

theorem q_Of {z : Int} (h1 : -9223372036854775808 ≤ z) (h2 : z < 9223372036854775808) : Cm.q f_bigint_Of [.int .i64 z] = some (intA (ofZ z)) := by
  refine q_by t_bigint_Of (Gives_of rfl ?_)
  simp (disch := omega) [e_bigint_Of]
  refine ⟨fun h => ?_, fun h => ?_⟩
  · obtain ⟨n, hn⟩ : ∃ n : Nat, z = -n := ⟨z.natAbs, by omega⟩
    subst hn
    have e : -(-(n : Int) % 18446744073709551616) % 18446744073709551616 = n := by omega
    have hw := q_word (n := n) (by omega)
    have hh := q_with (a := some (dig n)) (v := n) rfl (lt256 (by omega)) (by omega) true
    simp at hh
    simp (disch := omega) [e, hw, hh]
  · obtain ⟨n, hn⟩ : ∃ n : Nat, z = n := ⟨z.natAbs, by omega⟩
    subst hn
    have hw := q_word (n := n) (by omega)
    have hh := q_with (a := some (dig n)) (v := n) rfl (lt256 (by omega)) (by omega) false
    simp at hh
    simp (disch := omega) [hw, hh]

theorem q_Sign (z : Int) : Cm.q f_bigint_Sign [intA (ofZ z)] = some (.int .i64 z.sign) := by
  refine q_by t_bigint_Sign (Gives_of rfl ?_)
  have hv := q_Valid (ofZ z)
  rw [okI_ofZ] at hv
  have hs : (ofZ z).neg = decide (z < 0) := rfl
  have hm : (ofZ z).mag = mag z.natAbs := rfl
  have hnil : (mag z.natAbs = []) ↔ z = 0 := by rw [mag_eq_nil]; omega
  rcases Int.lt_trichotomy z 0 with h | h | h
  · have h0 : ¬ z = 0 := by omega
    simp [e_bigint_Sign, hv, hs, hm, hnil, h0, h, Int.sign_eq_neg_one_of_neg]
  · subst h
    simp [e_bigint_Sign, hv, hs, hm, hnil]
  · have h0 : ¬ z = 0 := by omega
    have h1 : ¬ z < 0 := by omega
    simp [e_bigint_Sign, hv, hs, hm, hnil, h0, h1, Int.sign_eq_one_of_pos h]

theorem ofZ_neg (z : Int) : ofZ (-z) = ⟨!(decide (z < 0)) && !(decide (mag z.natAbs = [])), mag z.natAbs⟩ := by
  have hnil : (mag z.natAbs = []) ↔ z = 0 := by rw [mag_eq_nil]; omega
  simp only [ofZ, Int.natAbs_neg]
  congr 1
  rw [Bool.eq_iff_iff]
  simp [hnil]
  omega

theorem q_Neg (z : Int) : Cm.q f_bigint_Neg [intA (ofZ z)] = some (intA (ofZ (-z))) := by
  refine q_by t_bigint_Neg (Gives_of rfl ?_)
  have hv := q_Valid (ofZ z)
  rw [okI_ofZ] at hv
  have hs : (ofZ z).neg = decide (z < 0) := rfl
  have hm : (ofZ z).mag = mag z.natAbs := rfl
  rw [ofZ_neg]
  by_cases h : z < 0
  · simp [e_bigint_Neg, hv, hs, hm, h]
  · by_cases h0 : mag z.natAbs = []
    · simp [e_bigint_Neg, hv, hs, hm, h, h0]
    · have h1 : (mag z.natAbs).isEmpty = false := by simp [h0]
      simp [e_bigint_Neg, hv, hs, hm, h, h0, h1]

theorem q_Abs (z : Int) : Cm.q f_bigint_Abs [intA (ofZ z)] = some (intA (ofZ z.natAbs)) := by
  refine q_by t_bigint_Abs (Gives_of rfl ?_)
  have hv := q_Valid (ofZ z)
  rw [okI_ofZ] at hv
  have hm : (ofZ z).mag = mag z.natAbs := rfl
  have h0 : ¬ ((z.natAbs : Int) < 0) := by omega
  have e : ofZ (z.natAbs : Int) = ⟨false, mag z.natAbs⟩ := by simp [ofZ, h0]
  rw [e]
  simp [e_bigint_Abs, hv, hm]

theorem q_Add {a b : Int} {n : Nat} (ha : Bd n a) (hb : Bd n b) (hn : n < 2 ^ 28) : Cm.q f_bigint_Add [intA (ofZ a), intA (ofZ b)] = some (intA (ofZ (a + b))) := by
  refine q_by t_bigint_Add (Gives_of rfl ?_)
  have hva := q_Valid (ofZ a)
  have hvb := q_Valid (ofZ b)
  rw [okI_ofZ] at hva hvb
  have hsa : (ofZ a).neg = decide (a < 0) := rfl
  have hma : (ofZ a).mag = mag a.natAbs := rfl
  have hsb : (ofZ b).neg = decide (b < 0) := rfl
  have hmb : (ofZ b).mag = mag b.natAbs := rfl
  have xa := x_of ha (by omega)
  have xb := x_of hb (by omega)
  have la := dl ha
  have lb := dl hb
  have hadd := q_add (some (dig a.natAbs)) (some (dig b.natAbs)) (dig_dg _) (dig_dg _) (by simp only [lst_some]; omega) (by simp only [lst_some]; omega)
  have hcmp := q_compare (some (dig a.natAbs)) (some (dig b.natAbs)) (by simp) (by simp) (by simp only [lst_some]; omega) (by simp only [lst_some]; omega)
  simp only [lst_some, val_dig] at hadd hcmp
  have hsum : a.natAbs + b.natAbs < 256 ^ (n + 1) := by
    unfold Bd at ha hb
    rw [Nat.pow_succ]; omega
  simp (disch := omega) [e_bigint_Add, hva, hvb, hsa, hma, hsb, hmb, xa, xb]
  refine ⟨fun h => ?_, fun h => ?_⟩
  · have hw := q_with (a := some (dig (a.natAbs + b.natAbs))) rfl hsum (by omega) (decide (a < 0))
    have e : (if decide (a < 0) = true then -((a.natAbs + b.natAbs : Nat) : Int) else ((a.natAbs + b.natAbs : Nat) : Int)) = a + b := by
      by_cases h1 : a < 0
      · have h2 : b < 0 := by simpa [h1] using h
        simp [h1]; omega
      · have h2 : ¬ b < 0 := by simpa [h1] using h
        simp [h1]; omega
    rw [e] at hw
    simp (disch := omega) [hadd, hw, hsa]
  · simp (disch := omega) [hcmp]
    refine ⟨fun h2 => ?_, fun h2 => ?_⟩
    · have h3 := cmpN_ge.1 h2
      have hless := q_less (some (dig a.natAbs)) (some (dig b.natAbs)) (dig_dg _) (dig_dg _) (digB_length_mono (by omega) h3) (by simp only [lst_some]; omega) (by simpa using h3)
      simp only [lst_some, val_dig] at hless
      have hw := q_with (a := some (dig (a.natAbs - b.natAbs))) (v := a.natAbs - b.natAbs) (n := n) rfl (by unfold Bd at ha; omega) (by omega) (decide (a < 0))
      have e : (if decide (a < 0) = true then -((a.natAbs - b.natAbs : Nat) : Int) else ((a.natAbs - b.natAbs : Nat) : Int)) = a + b := by
        by_cases h1 : a < 0
        · have h2 : ¬ b < 0 := by simpa [h1] using h
          simp [h1]; omega
        · have h2 : b < 0 := by simpa [h1] using h
          simp [h1]; omega
      rw [e] at hw
      simp (disch := omega) [hless, hw, hsa]
    · have h3 : a.natAbs < b.natAbs := by
        have := mt cmpN_ge.2 h2
        omega
      have hless := q_less (some (dig b.natAbs)) (some (dig a.natAbs)) (dig_dg _) (dig_dg _) (digB_length_mono (by omega) (by omega)) (by simp only [lst_some]; omega) (by simp; omega)
      simp only [lst_some, val_dig] at hless
      have hw := q_with (a := some (dig (b.natAbs - a.natAbs))) (v := b.natAbs - a.natAbs) (n := n) rfl (by unfold Bd at hb; omega) (by omega) (decide (b < 0))
      have e : (if decide (b < 0) = true then -((b.natAbs - a.natAbs : Nat) : Int) else ((b.natAbs - a.natAbs : Nat) : Int)) = a + b := by
        by_cases h1 : a < 0
        · have h2 : ¬ b < 0 := by simpa [h1] using h
          simp [h2]; omega
        · have h2 : b < 0 := by simpa [h1] using h
          simp [h2]; omega
      rw [e] at hw
      simp (disch := omega) [hless, hw, hsb]

theorem q_Sub {a b : Int} {n : Nat} (ha : Bd n a) (hb : Bd n b) (hn : n < 2 ^ 28) : Cm.q f_bigint_Sub [intA (ofZ a), intA (ofZ b)] = some (intA (ofZ (a - b))) := by
  refine q_by t_bigint_Sub (Gives_of rfl ?_)
  have hva := q_Valid (ofZ a)
  have hvb := q_Valid (ofZ b)
  rw [okI_ofZ] at hva hvb
  have h1 := q_Neg b
  have h2 := q_Add ha hb.neg hn
  rw [← Int.sub_eq_add_neg] at h2
  simp [e_bigint_Sub, hva, hvb, h1, h2]

theorem q_Mul {a b : Int} {n m : Nat} (ha : Bd n a) (hb : Bd m b) (hn : n + m ≤ 2 ^ 28) : Cm.q f_bigint_Mul [intA (ofZ a), intA (ofZ b)] = some (intA (ofZ (a * b))) := by
  refine q_by t_bigint_Mul (Gives_of rfl ?_)
  have hva := q_Valid (ofZ a)
  have hvb := q_Valid (ofZ b)
  rw [okI_ofZ] at hva hvb
  have hsa : (ofZ a).neg = decide (a < 0) := rfl
  have hma : (ofZ a).mag = mag a.natAbs := rfl
  have hsb : (ofZ b).neg = decide (b < 0) := rfl
  have hmb : (ofZ b).mag = mag b.natAbs := rfl
  have xa := x_of ha (by omega)
  have xb := x_of hb (by omega)
  have la := dl ha
  have lb := dl hb
  have hmul := q_mul (some (dig a.natAbs)) (some (dig b.natAbs)) (dig_dg _) (dig_dg _) (by simp only [lst_some]; omega) (by simp only [lst_some]; omega)
  simp only [lst_some, val_dig] at hmul
  have hbd := ha.mul hb
  unfold Bd at hbd
  rw [Int.natAbs_mul] at hbd
  have hw := q_with (a := some (dig (a.natAbs * b.natAbs))) rfl hbd (by omega) (!(decide (a < 0) == decide (b < 0)))
  have e : (if (!(decide (a < 0) == decide (b < 0))) = true then -((a.natAbs * b.natAbs : Nat) : Int) else ((a.natAbs * b.natAbs : Nat) : Int)) = a * b := by
    by_cases h1 : a < 0 <;> by_cases h2 : b < 0
    · simp [h1, h2, Int.neg_mul_neg, Int.neg_mul, Int.mul_neg, Int.neg_neg, Int.ofNat_natAbs_of_nonpos (Int.le_of_lt h1), Int.ofNat_natAbs_of_nonpos (Int.le_of_lt h2)]
    · simp [h1, h2, Int.neg_mul_neg, Int.neg_mul, Int.mul_neg, Int.neg_neg, Int.natAbs_of_nonneg (Int.not_lt.1 h2), Int.ofNat_natAbs_of_nonpos (Int.le_of_lt h1)]
    · simp [h1, h2, Int.neg_mul_neg, Int.neg_mul, Int.mul_neg, Int.neg_neg, Int.natAbs_of_nonneg (Int.not_lt.1 h1), Int.ofNat_natAbs_of_nonpos (Int.le_of_lt h2)]
    · simp [h1, h2, Int.neg_mul_neg, Int.neg_mul, Int.mul_neg, Int.neg_neg, Int.natAbs_of_nonneg (Int.not_lt.1 h1), Int.natAbs_of_nonneg (Int.not_lt.1 h2)]
  rw [e] at hw
  simp [e_bigint_Mul, hva, hvb, hsa, hma, hsb, hmb, xa, xb, hmul, hw]
end Go.Proofs.YteaopgkajbfkeaaGreatDoor
namespace Go.Proofs.YteaopgkajbfkeaaGreatDoor
open Go

/-- Quotient and remainder, rounded down, are the only ones. -/
theorem fdiv_unique {a b q r : Int} (hb : b ≠ 0) (h : a = b * q + r) (hr : 0 ≤ r ∧ r < b ∨ b < r ∧ r ≤ 0) : a.fdiv b = q ∧ a.fmod b = r := by
  have h0 : r.fdiv b = 0 := by
    rcases hr with hr | hr
    · exact Int.fdiv_eq_zero_of_lt hr.1 hr.2
    · have := Int.neg_fdiv_neg r b
      rw [← this]
      exact Int.fdiv_eq_zero_of_lt (by omega) (by omega)
  have h1 : a.fdiv b = q := by
    rw [h, Int.add_comm, Int.add_mul_fdiv_left _ _ hb, h0, Int.zero_add]
  refine ⟨h1, ?_⟩
  have := Int.fmod_add_mul_fdiv a b
  rw [h1] at this
  omega

set_option maxHeartbeats 2000000 in
theorem q_DivMod {a b : Int} {n : Nat} (ha : Bd n a) (hb : Bd n b) (hn : n < 2 ^ 27) (hb0 : b ≠ 0) : Cm.q f_bigint_DivMod [intA (ofZ a), intA (ofZ b)] = some (.tup [intA (ofZ (a.fdiv b)), intA (ofZ (a.fmod b)), .int .i64 0]) := by
  refine q_by t_bigint_DivMod (Gives_of rfl ?_)
  have hva := q_Valid (ofZ a)
  have hvb := q_Valid (ofZ b)
  rw [okI_ofZ] at hva hvb
  have hsa : (ofZ a).neg = decide (a < 0) := rfl
  have hma : (ofZ a).mag = mag a.natAbs := rfl
  have hsb : (ofZ b).neg = decide (b < 0) := rfl
  have hmb : (ofZ b).mag = mag b.natAbs := rfl
  have hnb : ¬ (mag b.natAbs = []) := by rw [mag_eq_nil]; omega
  have xa := x_of ha (by omega)
  have xb := x_of hb (by omega)
  have la := dl ha
  have lb := dl hb
  obtain ⟨x, y, hq, hx, hy⟩ := q_divide (some (dig a.natAbs)) (some (dig b.natAbs)) (by simp) (by simp) (by simp only [lst_some]; omega) (by simp only [lst_some]; omega) (by simp; omega)
  simp only [lst_some, val_dig] at hq hx hy
  obtain ⟨Q, hQ⟩ : ∃ Q, a.natAbs / b.natAbs = Q := ⟨_, rfl⟩
  obtain ⟨R, hR⟩ : ∃ R, a.natAbs % b.natAbs = R := ⟨_, rfl⟩
  have hdm : b.natAbs * Q + R = a.natAbs := by rw [← hQ, ← hR]; exact Nat.div_add_mod _ _
  have hRlt : R < b.natAbs := by rw [← hR]; exact Nat.mod_lt _ (by omega)
  rw [hQ] at hx
  rw [hR] at hy
  have hQle : Q ≤ a.natAbs := by rw [← hQ]; exact Nat.div_le_self _ _
  have hb1 := ha
  have hb2 := hb
  unfold Bd at hb1 hb2
  have hw1 := q_with hx (n := n) (by omega) (by omega) (!(decide (a < 0) == decide (b < 0)))
  have hw2 := q_with hy (n := n) (by omega) (by omega) (decide (a < 0))
  have hdmI : (b.natAbs : Int) * Q + R = a.natAbs := by exact_mod_cast hdm
  have hbA : (b.natAbs : Int) = if b < 0 then -b else b := by split <;> omega
  have hsub := q_Sub (a := -(Q : Int)) (b := 1) (n := n + 1) (by unfold Bd; rw [Nat.pow_succ]; omega) (by unfold Bd; rw [Nat.pow_succ]; have := Nat.pow_pos (n := n) (show 0 < 256 by omega); omega) (by omega)
  have hOf := q_Of (z := 1) (by omega) (by omega)
  by_cases h1 : a < 0 <;> by_cases h2 : b < 0 <;> by_cases hR0 : R = 0
  · -- both negative
    have e := fdiv_unique (a := a) (b := b) (q := Q) (r := -R) hb0 (by rw [hbA, if_pos h2, Int.neg_mul] at hdmI; omega) (.inr (by omega))
    simp [h1, h2, hR0] at hw1 hw2 e
    rw [e.1, e.2]
    simp (disch := omega) [e_bigint_DivMod, hva, hvb, hma, hmb, hnb, xa, xb, hq, h1, h2, hR0, hw1, hw2]
  · have e := fdiv_unique (a := a) (b := b) (q := Q) (r := -R) hb0 (by rw [hbA, if_pos h2, Int.neg_mul] at hdmI; omega) (.inr (by omega))
    simp [h1, h2] at hw1 hw2 e
    rw [e.1, e.2]
    simp (disch := omega) [e_bigint_DivMod, hva, hvb, hma, hmb, hnb, xa, xb, hq, h1, h2, hR0, hw1, hw2]
  · -- a negative, no rest
    have e := fdiv_unique (a := a) (b := b) (q := -Q) (r := 0) hb0 (by rw [hbA, if_neg h2] at hdmI; rw [Int.mul_neg]; omega) (.inl (by omega))
    simp [h1, h2, hR0] at hw1 hw2 e
    rw [e.1, e.2]
    simp (disch := omega) [e_bigint_DivMod, hva, hvb, hma, hmb, hnb, xa, xb, hq, h1, h2, hR0, hw1, hw2]
  · have e := fdiv_unique (a := a) (b := b) (q := -Q - 1) (r := -R + b) hb0 (by rw [hbA, if_neg h2] at hdmI; rw [Int.mul_sub, Int.mul_neg]; omega) (.inl (by omega))
    have hadd := q_Add (a := -(R : Int)) (b := b) (n := n) (by unfold Bd; omega) hb (by omega)
    simp [h1, h2] at hw1 hw2 e
    rw [e.1, e.2]
    simp (disch := omega) [e_bigint_DivMod, hva, hvb, hma, hmb, hnb, xa, xb, hq, h1, h2, hR0, hw1, hw2, hsub, hOf, hadd]
  · -- b negative, no rest
    have e := fdiv_unique (a := a) (b := b) (q := -Q) (r := 0) hb0 (by rw [hbA, if_pos h2, Int.neg_mul] at hdmI; rw [Int.mul_neg]; omega) (.inr (by omega))
    simp [h1, h2, hR0] at hw1 hw2 e
    rw [e.1, e.2]
    simp (disch := omega) [e_bigint_DivMod, hva, hvb, hma, hmb, hnb, xa, xb, hq, h1, h2, hR0, hw1, hw2]
  · have e := fdiv_unique (a := a) (b := b) (q := -Q - 1) (r := R + b) hb0 (by rw [hbA, if_pos h2, Int.neg_mul] at hdmI; rw [Int.mul_sub, Int.mul_neg]; omega) (.inr (by omega))
    have hadd := q_Add (a := (R : Int)) (b := b) (n := n) (by unfold Bd; omega) hb (by omega)
    simp [h1, h2] at hw1 hw2 e
    rw [e.1, e.2]
    simp (disch := omega) [e_bigint_DivMod, hva, hvb, hma, hmb, hnb, xa, xb, hq, h1, h2, hR0, hw1, hw2, hsub, hOf, hadd]
  · have e := fdiv_unique (a := a) (b := b) (q := Q) (r := R) hb0 (by rw [hbA, if_neg h2] at hdmI; omega) (.inl (by omega))
    simp [h1, h2, hR0] at hw1 hw2 e
    rw [e.1, e.2]
    simp (disch := omega) [e_bigint_DivMod, hva, hvb, hma, hmb, hnb, xa, xb, hq, h1, h2, hR0, hw1, hw2]
  · have e := fdiv_unique (a := a) (b := b) (q := Q) (r := R) hb0 (by rw [hbA, if_neg h2] at hdmI; omega) (.inl (by omega))
    simp [h1, h2] at hw1 hw2 e
    rw [e.1, e.2]
    simp (disch := omega) [e_bigint_DivMod, hva, hvb, hma, hmb, hnb, xa, xb, hq, h1, h2, hR0, hw1, hw2]
end Go.Proofs.YteaopgkajbfkeaaGreatDoor
namespace Go.Proofs.YteaopgkajbfkeaaGreatDoor
open Go

/-- The state of Euclid's way: two numbers with their digits. -/
structure GcdSt where
  x : Sl Nat
  y : Sl Nat
  m : Nat
  n : Nat

theorem gcd_loop1 {g a b : Nat} (hg : Nat.gcd a b = g) (ha : a < 18446744073709551616) (hb : b < 18446744073709551616) {mm : List (Nat × AV)} {d : AV} {B0 B1 B2 : Blk} {Q : Ex → St → Prop}
    (m4 : lk d mm 4 = .ref 2 0) (m9 : lk d mm 9 = .int .u64 a) (m10 : lk d mm 10 = .int .u64 b)
    (hq : ∀ m' d', lk d' m' 4 = .ref 2 0 → lk d' m' 9 = .int .u64 g → g < 18446744073709551616 → Q .nrm (mkL 65 d' m', [B0, B1, B2])) :
    V Cm 0 l_bigint_Gcd_1 (mkL 65 d mm, [B0, B1, B2]) Q ⟨⟩ ⟨⟩ := by
  unfold l_bigint_Gcd_1
  simp
  refine V.loop (fun s : Nat × Nat => Nat.gcd s.1 s.2 = g ∧ s.1 < 18446744073709551616 ∧ s.2 < 18446744073709551616)
    (fun s => (mkL 65 .any [(4, .ref 2 0), (9, .int .u64 s.1), (10, .int .u64 s.2)], [B0, B1, B2])) (fun s => s.2) ?_ (a, b) ⟨hg, ha, hb⟩ ?_
  · rintro ⟨x, y⟩ ⟨h1, h2, h3⟩
    dsimp only at h1 h2 h3
    by_cases hy : y = 0
    · subst hy
      simp at h1
      subst h1
      simp
      exact hq _ _ (by simp) (by simp) h2
    · have hlt : x % y < y := Nat.mod_lt _ (by omega)
      simp (disch := omega) [hy]
      refine ⟨y, x % y, ⟨?_, h3, by omega⟩, hlt, by simp⟩
      rw [← h1, Nat.gcd_comm y, ← Nat.gcd_rec, Nat.gcd_comm]
  · simp [m4, m9, m10]

theorem q_Gcd {a b : Int} {n : Nat} (ha : Bd n a) (hb : Bd n b) (hn : n < 2 ^ 27) : Cm.q f_bigint_Gcd [intA (ofZ a), intA (ofZ b)] = some (intA (ofZ (Int.gcd a b))) := by
  refine q_by t_bigint_Gcd (Gives_of rfl ?_)
  have hva := q_Valid (ofZ a)
  have hvb := q_Valid (ofZ b)
  rw [okI_ofZ] at hva hvb
  have hma : (ofZ a).mag = mag a.natAbs := rfl
  have hmb : (ofZ b).mag = mag b.natAbs := rfl
  have xa := x_of ha (by omega)
  have xb := x_of hb (by omega)
  obtain ⟨G, hG⟩ : ∃ G, Int.gcd a b = G := ⟨_, rfl⟩
  have hG2 : Nat.gcd a.natAbs b.natAbs = G := hG
  rw [hG]
  simp (disch := omega) [e_bigint_Gcd, hva, hvb, hma, hmb, xa, xb, l_bigint_Gcd_0]
  refine V.loop (fun s : GcdSt => lst s.x = dig s.m ∧ lst s.y = dig s.n ∧ s.m < 256 ^ n ∧ s.n < 256 ^ n ∧ Nat.gcd s.m s.n = G)
    (fun s => (mkL 65 .any [(4, .ref 2 0), (5, natA s.x), (6, natA s.y)], [⟨GInt.C (ofZ a), 1, false, false⟩, ⟨GInt.C (ofZ b), 1, false, false⟩, ⟨[.bool false, .str []], 1, false, false⟩])) (fun s => s.n) ?_ ⟨some (dig a.natAbs), some (dig b.natAbs), a.natAbs, b.natAbs⟩ ⟨rfl, rfl, ha, hb, hG2⟩ ?_
  · rintro ⟨x, y, m, k⟩ ⟨hx, hy, hm, hk, hg⟩
    dsimp only at hx hy hm hk hg
    have lx := dl hm
    have ly := dl hk
    rw [← hx] at lx
    rw [← hy] at ly
    have hk0 : (lst y).length = 0 ↔ k = 0 := by rw [hy, List.length_eq_zero_iff, dig_eq_nil]
    have step : k ≠ 0 → ∃ z w, Cm.q f_bigint_natural_divide [natA x, natA y] = some (.tup [natA z, natA w]) ∧ lst w = dig (m % k) ∧ m % k < k ∧ Nat.gcd k (m % k) = G := by
      intro h0
      obtain ⟨z, w, h1, h2, h3⟩ := q_divide x y (by rw [hx, val_dig]) (by rw [hy, val_dig]) (by omega) (by omega) (by rw [hy, val_dig]; exact h0)
      rw [hx, hy, val_dig, val_dig] at h3
      exact ⟨z, w, h1, h3, Nat.mod_lt _ (by omega), by rw [← hg, Nat.gcd_comm m k, Nat.gcd_rec k m, Nat.gcd_comm]⟩
    by_cases c1 : 2 < (lst y).length
    · obtain ⟨z, w, h1, h2, h3, h4⟩ := step (by omega)
      simp (disch := omega) [h1]
      exact ⟨⟨y, w, k, m % k⟩, ⟨hy, h2, hk, by simp only; omega, h4⟩, h3, rfl⟩
    · by_cases c2 : 2 < (lst x).length ∧ 0 < (lst y).length
      · obtain ⟨z, w, h1, h2, h3, h4⟩ := step (by omega)
        simp (disch := omega) [h1]
        exact ⟨⟨y, w, k, m % k⟩, ⟨hy, h2, hk, by simp only; omega, h4⟩, h3, rfl⟩
      · by_cases c3 : (lst y).length = 0
        · have hk1 := hk0.1 c3
          subst hk1
          simp at hg
          subst hg
          have hw := q_with hx hm (by omega) false
          simp at hw
          have c5 : lst y = [] := List.length_eq_zero_iff.1 c3
          by_cases c4 : 2 < (lst x).length
          · simp (disch := omega) [hw, c5]
          · simp (disch := omega) [hw, c5]
        · have c4 : ¬ 2 < (lst x).length := by omega
          have sx := q_single x (by rw [hx]; exact dig_dg _) (by omega)
          have sy := q_single y (by rw [hy]; exact dig_dg _) (by omega)
          rw [hx, val_dig] at sx
          rw [hy, val_dig] at sy
          have hm2 : m < 18446744073709551616 := by
            have := dig_length_le.1 (show (dig m).length ≤ 2 by rw [← hx]; omega)
            omega
          have hk2 : k < 18446744073709551616 := by
            have := dig_length_le.1 (show (dig k).length ≤ 2 by rw [← hy]; omega)
            omega
          have c5 : ¬ lst y = [] := fun h => c3 (by simp [h])
          simp (disch := omega) [sx, sy, c5]
          refine gcd_loop1 hg hm2 hk2 ?_ ?_ ?_ ?_ <;> (try simp)
          intro m' d' f4 f9 hG8
          have hw1 := q_word hG8
          have hw2 := q_with (a := some (dig G)) rfl (lt256 hG8) (by omega) false
          simp at hw2
          simp (disch := omega) [f4, f9, hw1, hw2]
  · simp
end Go.Proofs.YteaopgkajbfkeaaGreatDoor
namespace Go.Proofs.YteaopgkajbfkeaaGreatDoor
open Go

theorem q_prim {g : Nat} {f : List AV → Option AV} (hT : TT g = some (.prim f)) {us : List AV} {v : AV} (he : f us = some v) : Cm.q g us = some v := Om_qp hT he
theorem q_Repeat (s : List UInt8) (n : Nat) (h1 : n ≤ 17179869184) (h2 : s.length * n ≤ 17179869184) : Cm.q f_strings_Repeat [.str s, .int .i64 n] = some (.str (List.replicate n s).flatten) := by
  refine q_prim t_strings_Repeat ?_
  have h3 : (n : Int) ≤ 17179869184 := by omega
  simp [repeatP, LIM, h2, h3]

/-- The last k decimal digits. -/
def pad : Nat → Nat → List UInt8
  | 0, _ => []
  | k + 1, r => pad k (r / 10) ++ [UInt8.ofNat (48 + r % 10)]
theorem dec_pad {k n : Nat} (h : 10 ^ k ≤ n) : dec n = dec (n / 10 ^ k) ++ pad k (n % 10 ^ k) := by
  induction k generalizing n with
  | zero => simp [pad]
  | succ k ih =>
    have h4 : (10 : Nat) ^ (k + 1) = 10 * 10 ^ k := by rw [Nat.pow_succ, Nat.mul_comm]
    have hp : 1 ≤ 10 ^ k := Nat.pow_pos (by omega)
    rw [dec_ge (by omega), ih (n := n / 10) (by omega), pad, h4, Nat.div_div_eq_div_mul, List.append_assoc]
    congr 2
    · congr 1
      rw [Nat.mod_mul, Nat.add_mul_div_left _ _ (by omega), Nat.div_eq_of_lt (Nat.mod_lt _ (by omega)), Nat.zero_add]
    · rw [Nat.mod_mul, Nat.add_mul_mod_self_left, Nat.mod_mod]
theorem pad_zero (k : Nat) : pad k 0 = List.replicate k 48 := by
  induction k with
  | zero => rfl
  | succ k ih => rw [pad, Nat.zero_div, ih, List.replicate_succ']; rfl
theorem pad_eq {k r : Nat} (h : r < 10 ^ (k + 1)) : pad (k + 1) r = List.replicate (k + 1 - (dec r).length) 48 ++ dec r := by
  induction k generalizing r with
  | zero =>
    have : r % 10 = r := by omega
    rw [dec_lt (by omega)]; simp [pad, this]
  | succ k ih =>
    rw [pad]
    by_cases h1 : r < 10
    · have e : r / 10 = 0 := by omega
      have e2 : r % 10 = r := by omega
      rw [e, pad_zero, dec_lt h1, e2]; rfl
    · rw [ih (by rw [Nat.pow_succ] at h; omega), dec_ge (n := r) (by omega)]
      have := dec_pos_length (r / 10)
      rw [← List.append_assoc, List.length_append]
      congr 3
      simp

/-- The state of printing. -/
structure PrSt where
  o : Sl Nat
  n : Nat
  s : List UInt8

theorem flatten_singleton (n : Nat) (x : UInt8) : (List.replicate n [x]).flatten = List.replicate n x := by
  induction n with
  | zero => rfl
  | succ n ih => rw [List.replicate_succ, List.flatten_cons, ih, List.replicate_succ]; rfl

theorem q_bigint_Print {z : Int} {n : Nat} (hz : Bd n z) (hn : n ≤ 2 ^ 24) : Cm.q f_bigint_Print [intA (ofZ z)] = some (.str (itoa z)) := by
  refine q_by t_bigint_Print (Gives_of rfl ?_)
  have hv := q_Valid (ofZ z)
  rw [okI_ofZ] at hv
  have hmz : (ofZ z).mag = mag z.natAbs := rfl
  have xz := x_of hz (by omega)
  have htot : (dec z.natAbs).length ≤ 3 * n + 1 := by
    apply dec_length_le
    have h1 : (256 : Nat) ^ n ≤ (10 ^ 3) ^ n := Nat.pow_le_pow_left (by omega) n
    rw [← Nat.pow_mul] at h1
    have h2 : (10 : Nat) ^ (3 * n) ≤ 10 ^ (3 * n + 1) := Nat.pow_le_pow_right (by omega) (by omega)
    exact Nat.lt_of_lt_of_le hz (Nat.le_trans h1 h2)
  simp (disch := omega) [e_bigint_Print, hv, hmz, xz, l_bigint_Print_0]
  refine V.loop (fun s : PrSt => lst s.o = dig s.n ∧ s.n < 256 ^ n ∧ dec s.n ++ s.s = dec z.natAbs ∧ (s.s.length ≤ 2 ^ 30))
    (fun s => (mkL 56 .any [(1, .ref 0 0), (3, natA s.o), (4, .str s.s)], [⟨GInt.C (ofZ z), 1, false, false⟩])) (fun s => s.n) ?_ ⟨some (dig z.natAbs), z.natAbs, []⟩ ⟨rfl, hz, by simp, by simp⟩ ?_
  · rintro ⟨o, m, s⟩ ⟨ho, hm, hd, hs⟩
    dsimp only at ho hm hd hs
    have hl := dl hm
    rw [← ho] at hl
    by_cases hbig : 1000000000 ≤ m
    · have hsm := q_small o (by rw [ho]; exact dig_dg _) (by omega) (d := 1000000000) (by omega) (by omega)
      rw [ho, val_dig] at hsm
      simp at hsm
      obtain ⟨r, hr⟩ : ∃ r, m % 1000000000 = r := ⟨_, rfl⟩
      have hrI : (m : Int) % 1000000000 = r := by omega
      rw [hrI] at hsm
      have hit := q_Itoa (z := (r : Int)) (by omega) (by omega)
      have ei : itoa (r : Int) = dec r := by simp [itoa]
      rw [ei] at hit
      have hdl := dec_length_le (n := r) (k := 8) (by omega)
      obtain ⟨w, hw⟩ : ∃ w, 9 - (dec r).length = w := ⟨_, rfl⟩
      have hwI : (9 : Int) - (dec r).length = w := by omega
      have hrep := q_Repeat [48] w (by omega) (by simp; omega)
      rw [flatten_singleton] at hrep
      have hpad := pad_eq (k := 8) (r := r) (by omega)
      rw [show 8 + 1 - (dec r).length = w by omega] at hpad
      have hdec := dec_pad (k := 9) (n := m) (by omega)
      rw [show (10 : Nat) ^ 9 = 1000000000 by rfl, hr, hpad] at hdec
      -- the digits of a number that is not less than the base, or of one digit
      have hlen1 : (lst o).length = 1 → at0 (lst o) 0 = m := by
        intro h1
        obtain ⟨d, hdd⟩ := List.length_eq_one_iff.1 h1
        have := val_dig m
        rw [← ho, hdd] at this
        rw [hdd]
        simp [at0] at this ⊢
        exact this
      have hne : (lst o).length ≠ 0 := by
        intro h0
        rw [List.length_eq_zero_iff, ho, dig_eq_nil] at h0
        omega
      have hs' : List.replicate w (48 : UInt8) ++ dec r ++ s = (List.replicate w (48 : UInt8) ++ dec r) ++ s := rfl
      have hnew : dec (m / 1000000000) ++ (List.replicate w (48 : UInt8) ++ (dec r ++ s)) = dec z.natAbs := by
        rw [← hd, hdec]; simp
      have hslen : (List.replicate w (48 : UInt8) ++ (dec r ++ s)).length ≤ 2 ^ 30 := by
        have := congrArg List.length hnew
        rw [List.length_append] at this
        omega
      have hlt : m / 1000000000 < m := by omega
      by_cases h1 : (lst o).length = 1
      · have e0 := hlen1 h1
        simp (disch := omega) [h1, e0, hsm, hit, hwI, hrep]
        refine ⟨⟨some (dig (m / 1000000000)), m / 1000000000, _⟩, ⟨rfl, by simp only; omega, hnew, hslen⟩, hlt, rfl⟩
      · simp (disch := omega) [hsm, hit, hwI, hrep]
        refine ⟨⟨some (dig (m / 1000000000)), m / 1000000000, _⟩, ⟨rfl, by simp only; omega, hnew, hslen⟩, hlt, rfl⟩
    · have hl1 : (lst o).length ≤ 1 := by
        rw [ho, dig_length_le]; omega
      have hlen1 : (lst o).length = 1 → at0 (lst o) 0 = m := by
        intro h1
        obtain ⟨d, hdd⟩ := List.length_eq_one_iff.1 h1
        have := val_dig m
        rw [← ho, hdd] at this
        rw [hdd]
        simp [at0] at this ⊢
        exact this
      have hsi := q_single o (by rw [ho]; exact dig_dg _) (by omega)
      rw [ho, val_dig] at hsi
      have hit := q_Itoa (z := (m : Int)) (by omega) (by omega)
      have ei : itoa (m : Int) = dec m := by simp [itoa]
      rw [ei] at hit
      have hml := dec_length_le (n := m) (k := 9) (by omega)
      have hds : (dec z.natAbs).length ≤ 2 ^ 30 := by omega
      have hzn : (ofZ z).neg = decide (z < 0) := rfl
      have hfin : ∀ {m' : List (Nat × AV)} {d' : AV}, True := trivial
      by_cases h1 : (lst o).length = 1
      · have e0 := hlen1 h1
        by_cases hn : z < 0
        · simp (disch := omega) [h1, e0, hsi, hit, hd, hn]
          simp [itoa, hn]
        · simp (disch := omega) [h1, e0, hsi, hit, hd, hn]
          simp [itoa, hn]
      · have h0 : lst o = [] := List.length_eq_zero_iff.1 (by omega)
        by_cases hn : z < 0
        · simp (disch := omega) [h0, hsi, hit, hd, hn]
          simp [itoa, hn]
        · simp (disch := omega) [h0, hsi, hit, hd, hn]
          simp [itoa, hn]
  · simp
end Go.Proofs.YteaopgkajbfkeaaGreatDoor
