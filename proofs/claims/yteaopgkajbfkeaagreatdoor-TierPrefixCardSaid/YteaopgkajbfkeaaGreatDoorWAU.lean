/- The facets of a design. The facets of a design, or its fault. Clones, and the first tiers of a design. The first tiers of a design. The law of the first tiers, as data; and the examples that the law checks first. The law of the first tiers: it answers yes. The law of the first tiers, for all that its arguments may be. -/
import Derived.Test.YteaopgkajbfkeaaGreatDoorWAG
import Derived.Test.YteaopgkajbfkeaaGreatDoorWAN
import Derived.Test.YteaopgkajbfkeaaGreatDoorWAT
import Derived.Test.YteaopgkajbfkeaaGreatDoorWAM
set_option linter.unusedSimpArgs false
set_option linter.unusedVariables false
namespace Go.Proofs.YteaopgkajbfkeaaGreatDoor
open Go

def set0 : GSetting := ⟨0, 0, 0⟩
@[simp] theorem zeroSetting : z_api_Setting.map KV.av = GSetting.C set0 := rfl
@[simp] theorem zeroSetting_len : z_api_Setting.length = 3 := rfl
@[simp] theorem GSetting.set_v (s : GSetting) (v : Int) : (GSetting.C s).set 1 (AV.int .i64 v) = GSetting.C { s with v := v } := rfl
@[simp] theorem GSetting.set_index (s : GSetting) (v : Int) : (GSetting.C s).set 2 (AV.int .i64 v) = GSetting.C { s with index := v } := rfl
@[simp] theorem take14 (f : GFacet) : (GFacet.C f).take 14 = GFacet.C f := rfl
theorem facet_closed (f : GFacet) : (∀ y ∈ GFacet.C f, y.closed = true) = True := eq_true (List.all_eq_true.1 rfl)
abbrev fcA (f : GFacet) : AV := AV.agg (GFacet.C f)
def facetOf (t : GTier) (i : Int) : GFacet := ⟨t.name, ⟨t.h, t.v, i⟩, num0⟩
def addF (t : GTier) (own : List Int) (o : Sl GFacet) : Sl GFacet := own.foldl (fun o i => appS o [facetOf t i]) o
theorem addF_snoc (t : GTier) (own : List Int) (x : Int) (o : Sl GFacet) : addF t (own ++ [x]) o = appS (addF t own o) [facetOf t x] := by simp [addF]
theorem lst_addF (t : GTier) (own : List Int) (o : Sl GFacet) : lst (addF t own o) = lst o ++ own.map (facetOf t) := by
  induction own generalizing o with
  | nil => simp [addF]
  | cons x own ih => show lst (addF t own (appS o [facetOf t x])) = _; rw [ih]; simp

theorem listed_inner {h : Store} {b : Nat} {t : GTier} (hb : getB h b = some ⟨GTier.C t, 1, false, false⟩) {own : Sl Int} {o : Sl GFacet} {tl : AV} {n k : Int} (ho : (lst own).length ≤ 24) (hlo : (lst o).length < 2 ^ 30) {mm : List (Nat × AV)} {dd : AV} {Q : Ex → St → Prop}
    (m1 : lk dd mm 1 = .ref 0 0) (m2 : lk dd mm 2 = gA 14 (fun t => AV.agg (GFacet.C t)) o) (m6 : lk dd mm 6 = .ref b 0) (m26 : lk dd mm 26 = tl) (m27 : lk dd mm 27 = .int .i64 n) (m28 : lk dd mm 28 = .int .i64 k)
    (m46 : lk dd mm 46 = slA 1 i64A own) (m47 : lk dd mm 47 = .int .i64 (lst own).length) (m48 : lk dd mm 48 = .int .i64 0) (htl : tl.untip = tl)
    (hq : ∀ m' d', lk d' m' 1 = .ref 0 0 → lk d' m' 2 = gA 14 (fun t => AV.agg (GFacet.C t)) (addF t (lst own) o) → lk d' m' 26 = tl → lk d' m' 27 = .int .i64 n → lk d' m' 28 = .int .i64 k → Q .nrm (mkL 67 d' m', h)) :
    V Cm 0 l_tier_listed_1 (mkL 67 dd mm, h) Q ⟨⟩ ⟨⟩ := by
  unfold l_tier_listed_1
  simp
  refine V.loop (fun i : Nat => i ≤ (lst own).length)
    (fun i => (mkL 67 .any [(1, .ref 0 0), (2, gA 14 (fun t => AV.agg (GFacet.C t)) (addF t ((lst own).take i) o)), (6, .ref b 0), (26, tl), (27, .int .i64 n), (28, .int .i64 k), (46, slA 1 i64A own), (47, .int .i64 (lst own).length), (48, .int .i64 i)], h)) (fun i => (lst own).length - i) ?_ 0 (Nat.zero_le _) ?_
  · intro i hi
    by_cases c : i < (lst own).length
    · obtain ⟨x, hx⟩ : ∃ x, (lst own)[i] = x := ⟨_, rfl⟩
      have hs := addF_snoc t ((lst own).take i) x o
      rw [← hx, ← List.take_succ_eq_append_getElem c, hx] at hs
      have hln : (lst (addF t ((lst own).take i) o)).length < 2 ^ 31 := by rw [lst_addF]; simp; omega
      generalize addF t ((lst own).take i) o = P at *
      have ha : appV 14 [.agg (GFacet.C ⟨t.name, ⟨t.h, t.v, x⟩, facet0.depth⟩)] (gA 14 (fun t => AV.agg (GFacet.C t)) P) = some (gA 14 (fun t => AV.agg (GFacet.C t)) (appS P [facetOf t x])) := appV_gA1 (f := fun t => AV.agg (GFacet.C t)) (x := facetOf t x) (by simp only [LIM]; omega)
      simp (disch := omega) [hb, hx, ha, facet_closed]
      exact ⟨i + 1, by omega, by omega, by simp [hs]⟩
    · obtain rfl : i = (lst own).length := by omega
      simp (disch := omega)
      refine hq _ _ ?_ ?_ ?_ ?_ ?_ <;> simp
  · simp [m1, m2, m6, m26, m27, m28, m46, m47, m48, addF]
end Go.Proofs.YteaopgkajbfkeaaGreatDoor
namespace Go.Proofs.YteaopgkajbfkeaaGreatDoor
open Go

def ownF (d : GDesign) (t : GTier) : List Int := lst (posF d.order d.mirror t.h (lst t.indices))
def outs (d : GDesign) (k : Nat) : Sl GFacet := ((lst d.tiers).take k).foldl (fun o t => addF t (ownF d t) o) none
def faultAt (d : GDesign) (k : Nat) : Int := match (lst d.tiers)[k]? with
  | some t => faultT d.order d.mirror ((lst d.tiers).take k) t (lst (outs d k))
  | none => 0
/-- The facets of a design, the place of its fault, the fault. -/
def listedR (d : GDesign) : Sl GFacet × Int × Int :=
  if isName d.name = false then (none, -1, 1)
  else if divB d.order = false then (none, -1, 2)
  else if 20 < (lst d.tiers).length then (none, -1, 3)
  else match (List.range (lst d.tiers).length).find? (fun k => decide (faultAt d k ≠ 0)) with
    | some k => (none, k, faultAt d k)
    | none => (outs d (lst d.tiers).length, 0, 0)

theorem outs_succ {d : GDesign} {k : Nat} {t : GTier} (h : k < (lst d.tiers).length) (ht : (lst d.tiers)[k] = t) : outs d (k + 1) = addF t (ownF d t) (outs d k) := by
  unfold outs
  rw [List.take_succ_eq_append_getElem h, List.foldl_append, ht]; rfl
theorem outs_len (d : GDesign) (k : Nat) : (lst (outs d k)).length ≤ 24 * k := by
  induction k with
  | zero => simp [outs]
  | succ k ih =>
    by_cases h : k < (lst d.tiers).length
    · rw [outs_succ h rfl, lst_addF]
      have := posF_len d.order d.mirror (lst d.tiers)[k].h (lst (lst d.tiers)[k].indices)
      simp only [List.length_append, List.length_map, ownF]; omega
    · unfold outs at *
      rw [List.take_of_length_le (by omega)] at ih ⊢; omega

/-- The sizes of a design. -/
structure GDesign.L (d : GDesign) : Prop where
  n : d.name.length < 2 ^ 62
  t : ∀ t ∈ lst d.tiers, GTier.L t

set_option maxHeartbeats 2000000 in
theorem q_listed (d : GDesign) (hd : GDesign.L d) : Cm.q f_tier_listed [.agg (GDesign.C d)] = some (.tup [slA 14 (fun t => AV.agg (GFacet.C t)) (listedR d).1, .int .i64 (listedR d).2.1, .int .i64 (listedR d).2.2]) := by
  refine q_by t_tier_listed (Gives_of rfl ?_)
  have k1 := q_IsName d.name hd.n
  have k2 := q_divides d.order
  cases c1 : isName d.name
  · have e : listedR d = (none, -1, 1) := by simp [listedR, c1]
    rw [c1] at k1
    simp (disch := omega) [e_tier_listed, k1, e, slA_nils]
  · rw [c1] at k1
    cases c2 : divB d.order
    · have e : listedR d = (none, -1, 2) := by simp [listedR, c1, c2]
      rw [c2] at k2
      simp (disch := omega) [e_tier_listed, k1, k2, e, slA_nils]
    · rw [c2] at k2
      by_cases c3 : 20 < (lst d.tiers).length
      · have e : listedR d = (none, -1, 3) := by simp [listedR, c1, c2, c3]
        simp (disch := omega) [e_tier_listed, k1, k2, c3, e, slA_nils]
      · have e : listedR d = match (List.range (lst d.tiers).length).find? (fun k => decide (faultAt d k ≠ 0)) with
            | some k => (none, (k : Int), faultAt d k)
            | none => (outs d (lst d.tiers).length, 0, 0) := by unfold listedR; rw [if_neg (by simp [c1]), if_neg (by simp [c2]), if_neg c3]
        simp (disch := omega) [e_tier_listed, l_tier_listed_0, k1, k2]
        refine V.loop (fun s : Nat × Store => s.1 ≤ (lst d.tiers).length ∧ (∀ j, j < s.1 → faultAt d j = 0) ∧ getB s.2 0 = some ⟨GDesign.C d, 1, false, false⟩) (fun s => (mkL 67 .any [(1, .ref 0 0), (2, gA 14 (fun t => AV.agg (GFacet.C t)) (outs d s.1)), (26, slA 46 (fun t => AV.agg (GTier.C t)) d.tiers), (27, .int .i64 (lst d.tiers).length), (28, .int .i64 s.1)], s.2)) (fun s => (lst d.tiers).length - s.1) ?_ (0, [⟨GDesign.C d, 1, false, false⟩]) ⟨Nat.zero_le _, by simp, by simp⟩ ?_
        · rintro ⟨k, h⟩ ⟨hk, ha, k0⟩
          dsimp only at hk ha k0
          have kx : ∀ J, getB (h ++ J) 0 = some ⟨GDesign.C d, 1, false, false⟩ := fun J => getB_app_some k0
          by_cases c : k < (lst d.tiers).length
          · obtain ⟨t, ht⟩ : ∃ t, (lst d.tiers)[k] = t := ⟨_, rfl⟩
            have hL := hd.t t (by rw [← ht]; exact List.getElem_mem c)
            have hol := outs_len d k
            have hF : faultAt d k = faultT d.order d.mirror ((lst d.tiers).take k) t (lst (outs d k)) := by unfold faultAt; rw [List.getElem?_eq_getElem c, ht]
            have hf := q_fault d c (by omega) ht hL (outs d k) (by omega)
            rw [← hF] at hf
            have hs := outs_succ c ht
            have hp := q_Positions d.order d.mirror t hL.i hL.iv
            by_cases cf : faultAt d k = 0
            · rw [cf] at hf
              simp (disch := omega) [k0, kx, ht, hf, hp]
              refine listed_inner (t := t) (b := h.length) (own := posF d.order d.mirror t.h (lst t.indices)) (o := outs d k) (tl := slA 46 (fun t => AV.agg (GTier.C t)) d.tiers) (n := (lst d.tiers).length) (k := k) (by simp) (posF_len _ _ _ _) (by omega) (by simp) (by simp) (by simp) (by simp) (by simp) (by simp) (by simp) (by simp) (by simp) (by simp) ?_
              intro m' d' e1 e2 e3 e4 e5
              simp (disch := omega) [e1, e2, e3, e4, e5]
              exact ⟨k + 1, _, ⟨by omega, fun j hj => if hjk : j = k then by rw [hjk]; exact cf else ha j (by omega), kx _⟩, by omega, by rw [hs]; simp [ownF], rfl⟩
            · have e' : listedR d = (none, (k : Int), faultAt d k) := by
                have hfd : (List.range (lst d.tiers).length).find? (fun k => decide (faultAt d k ≠ 0)) = some k := List.find?_range_eq_some.2 ⟨by simpa using cf, by simpa using c, fun j hj => by simp [ha j hj]⟩
                rw [e, hfd]
              simp (disch := omega) [k0, kx, ht, hf, cf, e', slA_nils]
          · obtain rfl : k = (lst d.tiers).length := by omega
            have e' : listedR d = (outs d (lst d.tiers).length, 0, 0) := by
              have hfd : (List.range (lst d.tiers).length).find? (fun k => decide (faultAt d k ≠ 0)) = none := List.find?_range_eq_none.2 (fun j hj => by simp [ha j hj])
              rw [e, hfd]
            simp (disch := omega) [e']
        · simp [outs]
          rfl

theorem q_Facets (d : GDesign) (hd : GDesign.L d) : Cm.q f_tier_Facets [.agg (GDesign.C d)] = some (.tup [slA 14 (fun t => AV.agg (GFacet.C t)) (listedR d).1, .int .i64 (listedR d).2.2]) := by
  refine q_by t_tier_Facets (Gives_of rfl ?_)
  have k := q_listed d hd
  generalize listedR d = R at *
  simp (disch := omega) [e_tier_Facets, k]

theorem q_SameFacets (a b : Sl GFacet) (ha : (lst a).length < 2 ^ 62) : Cm.q f_culetref16_SameFacets [slA 14 (fun t => AV.agg (GFacet.C t)) a, slA 14 (fun t => AV.agg (GFacet.C t)) b] = some (.bool (decide (lst a = lst b))) := by
  refine q_by t_culetref16_SameFacets (Gives_of rfl ?_)
  by_cases c1 : (lst a).length = (lst b).length
  · simp (disch := omega) [e_culetref16_SameFacets, l_culetref16_SameFacets_0, c1]
    refine V.loop (fun n : Nat => n ≤ (lst a).length ∧ (lst a).take n = (lst b).take n) (fun n => (mkL 26 .any [(0, slA 14 (fun t => AV.agg (GFacet.C t)) a), (1, slA 14 (fun t => AV.agg (GFacet.C t)) b), (5, .int .i64 n)], [])) (fun n => (lst a).length - n) ?_ 0 ⟨Nat.zero_le _, by simp⟩ ?_
    · rintro n ⟨hn, he⟩
      by_cases c : n < (lst a).length
      · obtain ⟨x, hx⟩ : ∃ x, (lst a)[n] = x := ⟨_, rfl⟩
        obtain ⟨y, hy⟩ : ∃ y, (lst b)[n]'(by omega) = y := ⟨_, rfl⟩
        by_cases cx : x = y
        · simp (disch := omega) [hx, hy, cx]
          exact ⟨n + 1, ⟨by omega, by rw [List.take_succ_eq_append_getElem c, List.take_succ_eq_append_getElem (by omega), he, hx, hy, cx]⟩, by omega, by simp⟩
        · have hne : ¬ lst a = lst b := by
            intro h; apply cx; rw [← hx, ← hy]; simp only [h]
          simp (disch := omega) [hx, hy, cx, hne]
      · have hab : lst a = lst b := by rwa [List.take_of_length_le (by omega), List.take_of_length_le (by omega)] at he
        simp (disch := omega) [c, hab]
    · simp
  · have hne : ¬ lst a = lst b := by intro h; apply c1; rw [h]
    simp (disch := omega) [e_culetref16_SameFacets, c1, hne]
end Go.Proofs.YteaopgkajbfkeaaGreatDoor
namespace Go.Proofs.YteaopgkajbfkeaaGreatDoor
open Go

/-- What an append that gets its own block leaves. -/
def appoV (h : Store) (esz : Nat) (ag : Bool) (ws : List AV) : AV → Option (AV × Store)
  | .nils => if ws = [] then some (.nils, h) else some (.osl h.length 0 ws.length ws.length, h ++ [⟨ws.flatMap AV.cells, esz, ag, false⟩])
  | .z e => if e = esz then if ws = [] then some (.sl esz [], h) else some (.osl h.length 0 ws.length ws.length, h ++ [⟨ws.flatMap AV.cells, esz, ag, false⟩]) else none
  | _ => none
@[simp] theorem ev_appo {C : Env} {b0 : Nat} {sl : List AV} {h : Store} {esz : Nat} {ag : Bool} {s x : POpd} : evOp C b0 (.appo esz ag s x) sl h = (news h esz (x.get sl)).bind fun ws => if ws.all AV.closed = true ∧ ws.length ≤ LIM then appoV h esz ag ws (s.get sl) else none := by
  simp only [evOp]
  cases news h esz (x.get sl) <;> simp
  split
  · cases s.get sl <;> simp [appoV]
  · rfl
@[simp] theorem appoV_z {h : Store} {esz e : Nat} {ag : Bool} {ws : List AV} : appoV h esz ag ws (.z e) = if e = esz then if ws = [] then some (.sl esz [], h) else some (.osl h.length 0 ws.length ws.length, h ++ [⟨ws.flatMap AV.cells, esz, ag, false⟩]) else none := rfl

theorem cells_i64 (l : List Int) : (l.map i64A).flatMap AV.cells = mapV i64A l := by
  induction l with
  | nil => rfl
  | cons x l ih => simp only [List.map_cons, List.flatMap_cons, ih]; rfl
theorem fz_i64 {h : Store} (x : Int) (d : Nat) : freezeN h (d + 1) (i64A x) = some (i64A x) := rfl

theorem q_Clone_int (o : Sl Int) (ho : (lst o).length < 2 ^ 30) : Cm.q f_slices_Clone_int_int [slA 1 i64A o] = some (slA 1 i64A o) := by
  refine q_by t_slices_Clone_int_int (Gives_of rfl ?_)
  cases o with
  | none => simp (disch := omega) [e_slices_Clone_int_int, slA_nils]
  | some l =>
    simp only [lst, Option.getD_some] at ho
    cases l with
    | nil => simp (disch := omega) [e_slices_Clone_int_int, slA]
    | cons x l =>
      have hc := cells_i64 (x :: l)
      have hf : freeze [⟨mapV i64A (x :: l), 1, false, false⟩] (.osl 0 0 (x :: l).length (x :: l).length) = some (slA 1 i64A (some (((x :: l).drop 0).take (x :: l).length))) := freeze_own (ro := false) rfl (by simp) (fun x d => rfl)
      simp only [List.drop_zero, List.take_length] at hf
      simp only [List.length_cons] at hf ho
      simp (disch := omega) [e_slices_Clone_int_int, slA]
      rw [cells_i64 l]
      exact hf

section
variable {α : Type} {C : α → List AV} {e : Nat}
theorem chunksS (hC : ∀ x, (C x).length = e) (l : List α) (t : List AV) : chunks true e l.length (l.flatMap C ++ t) = l.map fun x => .agg (C x) := by
  induction l with
  | nil => rfl
  | cons x l ih =>
    show (.agg (((C x ++ l.flatMap C) ++ t).take e)) :: chunks true e l.length (((C x ++ l.flatMap C) ++ t).drop e) = _
    rw [List.append_assoc, List.take_append_of_le_length (by rw [hC]; exact Nat.le_refl _), List.take_of_length_le (by rw [hC]; exact Nat.le_refl _), List.drop_append_of_le_length (by rw [hC]; exact Nat.le_refl _), List.drop_of_length_le (by rw [hC]; exact Nat.le_refl _), List.nil_append, ih]
    rfl
theorem lenS (hC : ∀ x, (C x).length = e) (l : List α) : (l.flatMap C).length = l.length * e := by
  induction l with
  | nil => simp
  | cons x l ih => rw [List.flatMap_cons, List.length_append, ih, hC, List.length_cons, Nat.succ_mul]; omega
theorem freezeS {h : Store} {b cap : Nat} {ro : Bool} {l : List α} (hC : ∀ x, (C x).length = e) (hb : getB h b = some ⟨l.flatMap C, e, true, ro⟩) (hf : ∀ x ∈ l, ∀ c ∈ C x, freezeN h 7 c = some c) : freeze h (.osl b 0 l.length cap) = some (.sl e (l.map fun x => .agg (C x))) := by
  unfold freeze
  rw [freezeN_osl, hb]
  have hl := lenS hC l
  have h1 : (l.flatMap C).take (l.length * e) = l.flatMap C := List.take_of_length_le (by rw [hl]; exact Nat.le_refl _)
  have h2 := chunksS hC l []
  rw [List.append_nil] at h2
  simp only [Nat.zero_add, List.drop_zero, h1, hl, Nat.le_refl, if_true]
  rw [mapM_id]
  · simp [h2]
  · intro c hc
    obtain ⟨x, hx, hc⟩ := List.mem_flatMap.1 hc
    exact hf x hx c hc
theorem reachS {h : Store} {b cap n : Nat} {ro : Bool} {l : List α} (hb : getB h b = some ⟨l.flatMap C, e, true, ro⟩) (hf : ∀ x ∈ l, ∀ c ∈ C x, reachN h 7 c = []) : reachN h 8 (.osl b 0 n cap) = [b] := by
  rw [reachN_osl, hb]
  simp only [List.cons.injEq, true_and, List.flatMap_eq_nil_iff]
  intro c hc
  obtain ⟨x, hx, hc⟩ := List.mem_flatMap.1 hc
  exact hf x hx c hc
end

theorem fz_ref (x : GRef) {h : Store} : ∀ c ∈ GRef.C x, freezeN h 7 c = some c := by
  intro c hc
  simp only [GRef.C, List.mem_cons, List.not_mem_nil, or_false] at hc
  rcases hc with rfl | rfl <;> rfl
theorem rc_ref (x : GRef) {h : Store} : ∀ c ∈ GRef.C x, reachN h 7 c = [] := by
  intro c hc
  simp only [GRef.C, List.mem_cons, List.not_mem_nil, or_false] at hc
  rcases hc with rfl | rfl <;> rfl
theorem q_Clone_Ref (o : Sl GRef) (ho : (lst o).length < 2 ^ 30) : Cm.q f_slices_Clone_api_Ref_api_Ref [slA 2 (fun t => AV.agg (GRef.C t)) o] = some (slA 2 (fun t => AV.agg (GRef.C t)) o) := by
  refine q_by t_slices_Clone_api_Ref_api_Ref (Gives_of rfl ?_)
  cases o with
  | none => simp (disch := omega) [e_slices_Clone_api_Ref_api_Ref, slA_nils]
  | some l =>
    simp only [lst, Option.getD_some] at ho
    cases l with
    | nil => simp (disch := omega) [e_slices_Clone_api_Ref_api_Ref, slA]
    | cons x l =>
      have hf : freeze [⟨(x :: l).flatMap GRef.C, 2, true, false⟩] (.osl 0 0 (x :: l).length (x :: l).length) = some (.sl 2 ((x :: l).map fun x => .agg (GRef.C x))) := freezeS (ro := false) (fun _ => rfl) rfl (fun x _ => fz_ref x)
      have hc : ∀ l : List GRef, (l.map fun t => AV.agg (GRef.C t)).flatMap AV.cells = l.flatMap GRef.C := by
        intro l; rw [List.flatMap_map]; rfl
      simp only [List.length_cons] at hf ho
      simp (disch := omega) [e_slices_Clone_api_Ref_api_Ref, slA]
      rw [hc l]
      exact hf

theorem k_Clone_nil (o : Sl GTier) (ho : lst o = []) (h : Store) : Cm.k f_slices_Clone_api_Tier_api_Tier [slA 46 (fun t => AV.agg (GTier.C t)) o] h = some (slA 46 (fun t => AV.agg (GTier.C t)) o, h) := by
  refine k_by t_slices_Clone_api_Tier_api_Tier (Gives_of rfl ?_)
  cases o with
  | none => simp (disch := omega) [e_slices_Clone_api_Tier_api_Tier, slA_nils]
  | some l =>
    simp only [lst, Option.getD_some] at ho
    subst ho
    simp (disch := omega) [e_slices_Clone_api_Tier_api_Tier, slA]
theorem k_Clone_Tier (o : Sl GTier) (ho : lst o ≠ []) (hl : (lst o).length < 2 ^ 30) (h : Store) : Cm.k f_slices_Clone_api_Tier_api_Tier [slA 46 (fun t => AV.agg (GTier.C t)) o] h = some (.osl h.length 0 (lst o).length (lst o).length, h ++ [⟨(lst o).flatMap GTier.C, 46, true, false⟩]) := by
  refine k_by t_slices_Clone_api_Tier_api_Tier (Gives_of rfl ?_)
  cases o with
  | none => exact absurd rfl ho
  | some l =>
    simp only [lst, Option.getD_some] at ho hl
    have hc : ∀ l : List GTier, (l.map fun t => AV.agg (GTier.C t)).flatMap AV.cells = l.flatMap GTier.C := by
      intro l; rw [List.flatMap_map]; rfl
    simp (disch := omega) [e_slices_Clone_api_Tier_api_Tier, slA, hc, ho]
end Go.Proofs.YteaopgkajbfkeaaGreatDoor
namespace Go.Proofs.YteaopgkajbfkeaaGreatDoor
open Go

theorem q_Prefix_bad (d : GDesign) {n : Int} (hn : n < 0 ∨ (lst d.tiers).length < n) : Cm.q f_tier_Prefix [.agg (GDesign.C d), .int .i64 n] = some (.tup [.agg (GDesign.C design0), .int .i64 2]) := by
  refine q_by t_tier_Prefix (Gives_of rfl ?_)
  by_cases c : n < 0
  · simp (disch := omega) [e_tier_Prefix, c]
  · simp (disch := omega) [e_tier_Prefix, c]

theorem design_set (d : GDesign) (v : AV) : (GDesign.C d).set 3 v = [.str d.name, .int .i64 d.order, .bool d.mirror, v] := rfl
theorem design_spl (d : GDesign) (a b c v : AV) : splice (GDesign.C d) 0 [a, b, c, v] = [a, b, c, v] := rfl
theorem getS {α : Type} {C : α → List AV} {e : Nat} (hC : ∀ x, (C x).length = e) (l : List α) {i j : Nat} (hi : i < l.length) (hj : j < e) : (l.flatMap C)[i * e + j]? = (C l[i])[j]? := by
  induction l generalizing i with
  | nil => simp at hi
  | cons x l ih =>
    rw [List.flatMap_cons]
    cases i with
    | zero => rw [Nat.zero_mul, Nat.zero_add, List.getElem?_append_left (by rw [hC]; exact hj)]; rfl
    | succ i =>
      rw [List.getElem?_append_right (by rw [hC, Nat.succ_mul]; omega), hC]
      have : (i + 1) * e + j - e = i * e + j := by rw [Nat.succ_mul]; omega
      rw [this, ih (by simpa using hi)]; rfl
theorem set_same {l : List AV} {i : Nat} {v : AV} (h : l[i]? = some v) : l.set i v = l := by
  apply List.ext_getElem?
  intro j
  by_cases hj : i = j
  · subst hj; rw [List.getElem?_set_self (by exact (List.getElem?_eq_some_iff.1 h).1), h]
  · rw [List.getElem?_set_ne hj]
theorem fz_design {h : Store} {s : List UInt8} {n : Int} {m : Bool} {v w : AV} (hv : freezeN h 6 v = some w) : freezeN h 7 (.agg [.str s, .int .i64 n, .bool m, v]) = some (.agg [.str s, .int .i64 n, .bool m, w]) := by
  show (([AV.str s, .int .i64 n, .bool m, v].mapM (freezeN h 6)).map AV.agg) = _
  simp [hv]
theorem freezeSN {α : Type} {C : α → List AV} {e d : Nat} {h : Store} {b cap : Nat} {ro : Bool} {l : List α} (hC : ∀ x, (C x).length = e) (hb : getB h b = some ⟨l.flatMap C, e, true, ro⟩) (hf : ∀ x ∈ l, ∀ c ∈ C x, freezeN h d c = some c) : freezeN h (d + 1) (.osl b 0 l.length cap) = some (.sl e (l.map fun x => .agg (C x))) := by
  rw [freezeN_osl, hb]
  have hl := lenS hC l
  have h1 : (l.flatMap C).take (l.length * e) = l.flatMap C := List.take_of_length_le (by rw [hl]; exact Nat.le_refl _)
  have h2 := chunksS hC l []
  rw [List.append_nil] at h2
  simp only [Nat.zero_add, List.drop_zero, h1, hl, Nat.le_refl, if_true]
  rw [mapM_id]
  · simp [h2]
  · intro c hc
    obtain ⟨x, hx, hc⟩ := List.mem_flatMap.1 hc
    exact hf x hx c hc
theorem q_Prefix_nil (d : GDesign) : Cm.q f_tier_Prefix [.agg (GDesign.C d), .int .i64 0] = some (.tup [.agg (GDesign.C { d with tiers := cutS d.tiers 0 0 }), .int .i64 0]) := by
  refine q_by t_tier_Prefix (Gives_of rfl ?_)
  have k := fun h => k_Clone_nil (cutS d.tiers 0 0) (by simp) h
  simp (disch := omega) [e_tier_Prefix, l_tier_Prefix_0]
  rw [slslV_slA_hi (n := 0) (by simp (disch := omega)) (by omega)]
  simp (disch := omega) [k, design_set, V_round, design_spl]
  rw [fz_design (freezeN_slA)]
  rfl
theorem fz_tier (x : GTier) {h : Store} : ∀ c ∈ GTier.C x, freezeN h 5 c = some c := by
  intro c hc
  simp only [GTier.C, List.mem_cons, List.not_mem_nil, or_false] at hc
  iterate 45 (rcases hc with rfl | hc; · first | rfl | exact freezeN_slA)
  subst hc
  exact freezeN_slA
theorem q_Prefix (d : GDesign) {n : Nat} (hn : n ≤ (lst d.tiers).length) (h0 : 0 < n) (hl : (lst d.tiers).length < 2 ^ 30) (hi : ∀ t ∈ lst d.tiers, (lst t.indices).length < 2 ^ 30) (hr : ∀ t ∈ lst d.tiers, (lst t.fix.refs).length < 2 ^ 30) : Cm.q f_tier_Prefix [.agg (GDesign.C d), .int .i64 n] = some (.tup [.agg (GDesign.C { d with tiers := cutS d.tiers 0 n }), .int .i64 0]) := by
  refine q_by t_tier_Prefix (Gives_of rfl ?_)
  have k := fun h => k_Clone_Tier (cutS d.tiers 0 n) (by rw [lst_cutS, List.drop_zero]; intro h; have := congrArg List.length h; rw [List.length_take, List.length_nil] at this; omega) (by simp; omega) h
  simp (disch := omega) [e_tier_Prefix, l_tier_Prefix_0]
  rw [slslV_slA_hi (n := n) (by simp (disch := omega)) (by omega)]
  simp (disch := omega) [k, design_set]
  have hln : ((lst d.tiers).take n).length = n := by simp; omega
  generalize hT : (lst d.tiers).take n = T at *
  have hTm : ∀ x ∈ T, x ∈ lst d.tiers := fun x hx => List.mem_of_mem_take (hT ▸ hx)
  have hcl : (T.flatMap GTier.C).length = n * 46 := by rw [lenS (C := GTier.C) (e := 46) (fun _ => rfl), hln]
  refine V.loop (fun i : Nat => i ≤ n) (fun i => (mkL 57 .any [(2, .ref 0 0), (4, .ref 1 0), (25, .int .i64 n), (26, .int .i64 i)], [⟨[.str d.name, .int .i64 d.order, .bool d.mirror, .osl 2 0 n n], 1, false, false⟩, ⟨GDesign.C design0, 1, false, false⟩, ⟨T.flatMap GTier.C, 46, true, false⟩])) (fun i => n - i) ?_ 0 (Nat.zero_le _) ?_
  · intro i hin
    by_cases c : i < n
    · have a1 := getS (C := GTier.C) (e := 46) (fun _ => rfl) T (i := i) (j := 3) (by omega) (by omega)
      have a2 := getS (C := GTier.C) (e := 46) (fun _ => rfl) T (i := i) (j := 45) (by omega) (by omega)
      rw [GTier.q_indices] at a1
      have a2' : (GTier.C T[i])[45]? = some (slA 2 (fun t => AV.agg (GRef.C t)) T[i].fix.refs) := rfl
      rw [a2'] at a2
      have s1 := set_same a1
      have s2 := set_same a2
      obtain ⟨g1, b1⟩ := List.getElem?_eq_some_iff.1 a1
      obtain ⟨g2, b2⟩ := List.getElem?_eq_some_iff.1 a2
      have q1 := q_Clone_int T[i].indices (hi _ (hTm _ (List.getElem_mem _)))
      have q2 := q_Clone_Ref T[i].fix.refs (hr _ (hTm _ (List.getElem_mem _)))
      simp (disch := omega) [hcl, a1, a2, q1, q2, s1, s2, b1, b2]
      exact ⟨i + 1, by omega, by omega, by simp⟩
    · obtain rfl : i = n := by omega
      simp (disch := omega) [design_spl]
      have hz : ∀ h : Store, getB h 2 = some ⟨T.flatMap GTier.C, 46, true, false⟩ → freezeN h 6 (.osl 2 0 i i) = some (slA 46 (fun t => AV.agg (GTier.C t)) (cutS d.tiers 0 i)) := by
        intro h hb
        have h1 := freezeSN (C := GTier.C) (e := 46) (d := 5) (cap := i) (fun _ => rfl) hb (fun x _ => fz_tier x)
        rw [hln] at h1
        rw [h1, ← hT]
        cases hd : d.tiers with
        | none => rw [hd] at hn; simp at hn; omega
        | some l => simp [slA, cutS]
      rw [fz_design (hz _ rfl)]
      rfl
  · simp
end Go.Proofs.YteaopgkajbfkeaaGreatDoor
namespace Go.Proofs.YteaopgkajbfkeaaGreatDoor
open Go

theorem outs_append (d : GDesign) (m n : Nat) (h : m ≤ n) : ∃ t, lst (outs d n) = lst (outs d m) ++ t := by
  induction n with
  | zero => obtain rfl : m = 0 := by omega
            exact ⟨[], by simp⟩
  | succ n ih =>
    by_cases e : m = n + 1
    · exact ⟨[], by simp [e]⟩
    · obtain ⟨t, ht⟩ := ih (by omega)
      by_cases h2 : n < (lst d.tiers).length
      · rw [outs_succ h2 rfl, lst_addF, ht, List.append_assoc]; exact ⟨_, rfl⟩
      · refine ⟨t, ?_⟩
        rw [← ht]; unfold outs
        rw [List.take_of_length_le (by omega), List.take_of_length_le (by omega)]

def pre (d : GDesign) (m : Nat) : GDesign := { d with tiers := cutS d.tiers 0 m }
theorem pre_tiers (d : GDesign) (m : Nat) : lst (pre d m).tiers = (lst d.tiers).take m := by
  simp only [pre, lst_cutS, List.drop_zero]
theorem outs_pre {d : GDesign} {m k : Nat} (h : k ≤ m) : outs (pre d m) k = outs d k := by
  unfold outs
  rw [pre_tiers, List.take_take, Nat.min_eq_left h]
  rfl
theorem faultAt_pre {d : GDesign} {m k : Nat} (h : k < m) : faultAt (pre d m) k = faultAt d k := by
  unfold faultAt
  rw [pre_tiers, List.getElem?_take_of_lt h, outs_pre (by omega), List.take_take, Nat.min_eq_left (by omega)]
  rfl
/-- The facets of the first tiers are the first facets. -/
theorem listed_pre {d : GDesign} (he : (listedR d).2.2 = 0) {m : Nat} (hm : m ≤ (lst d.tiers).length) :
    (listedR (pre d m)).2.2 = 0 ∧ ∃ t, lst (listedR d).1 = lst (listedR (pre d m)).1 ++ t := by
  have hn : isName d.name ≠ false := by intro h; simp [listedR, h] at he
  have ho : divB d.order ≠ false := by intro h; simp [listedR, hn, h] at he
  have hl : ¬ 20 < (lst d.tiers).length := by intro h; simp [listedR, hn, ho, h] at he
  have e1 : ∀ p : GDesign, p.name = d.name → p.order = d.order → (lst p.tiers).length ≤ 20 → listedR p = match (List.range (lst p.tiers).length).find? (fun k => decide (faultAt p k ≠ 0)) with
      | some k => (none, (k : Int), faultAt p k)
      | none => (outs p (lst p.tiers).length, 0, 0) := by
    intro p h1 h2 h3
    unfold listedR; rw [if_neg (by rw [h1]; exact hn), if_neg (by rw [h2]; exact ho), if_neg (by omega)]
    all_goals rfl
  have hd := e1 d rfl rfl (by omega)
  have hpl : (lst (pre d m).tiers).length = m := by rw [pre_tiers, List.length_take]; omega
  have hp := e1 (pre d m) rfl rfl (by omega)
  have hf : (List.range (lst d.tiers).length).find? (fun k => decide (faultAt d k ≠ 0)) = none := by
    cases hc : (List.range (lst d.tiers).length).find? (fun k => decide (faultAt d k ≠ 0)) with
    | none => rfl
    | some k =>
      have := List.find?_some hc
      rw [hd, hc] at he
      simp at this
      exact absurd he this
  have hf2 : (List.range (lst (pre d m).tiers).length).find? (fun k => decide (faultAt (pre d m) k ≠ 0)) = none := by
    rw [hpl]
    refine List.find?_range_eq_none.2 (fun j hj => ?_)
    rw [faultAt_pre hj]
    exact List.find?_range_eq_none.1 hf j (by omega)
  rw [hf] at hd
  rw [hf2, hpl] at hp
  rw [hd, hp]
  refine ⟨rfl, ?_⟩
  rw [outs_pre (Nat.le_refl m)]
  exact outs_append d m _ hm

theorem q_SameInts (a b : Sl Int) (ha : (lst a).length < 2 ^ 62) : Cm.q f_culetref16_SameInts [slA 1 i64A a, slA 1 i64A b] = some (.bool (decide (lst a = lst b))) := by
  refine q_by t_culetref16_SameInts (Gives_of rfl ?_)
  by_cases c1 : (lst a).length = (lst b).length
  · simp (disch := omega) [e_culetref16_SameInts, l_culetref16_SameInts_0, c1]
    refine V.loop (fun n : Nat => n ≤ (lst a).length ∧ (lst a).take n = (lst b).take n) (fun n => (mkL 26 .any [(0, slA 1 i64A a), (1, slA 1 i64A b), (5, .int .i64 n)], [])) (fun n => (lst a).length - n) ?_ 0 ⟨Nat.zero_le _, by simp⟩ ?_
    · rintro n ⟨hn, he⟩
      by_cases c : n < (lst a).length
      · obtain ⟨x, hx⟩ : ∃ x, (lst a)[n] = x := ⟨_, rfl⟩
        obtain ⟨y, hy⟩ : ∃ y, (lst b)[n]'(by omega) = y := ⟨_, rfl⟩
        by_cases cx : x = y
        · simp (disch := omega) [hx, hy, cx]
          exact ⟨n + 1, ⟨by omega, by rw [List.take_succ_eq_append_getElem c, List.take_succ_eq_append_getElem (by omega), he, hx, hy, cx]⟩, by omega, by simp⟩
        · have hne : ¬ lst a = lst b := by
            intro h; apply cx; rw [← hx, ← hy]; simp only [h]
          simp (disch := omega) [hx, hy, cx, hne]
      · have hab : lst a = lst b := by rwa [List.take_of_length_le (by omega), List.take_of_length_le (by omega)] at he
        simp (disch := omega) [c, hab]
    · simp
  · have hne : ¬ lst a = lst b := by intro h; apply c1; rw [h]
    simp (disch := omega) [e_culetref16_SameInts, c1, hne]

theorem q_Part (s : GSetting) : Cm.q f_tier_Part [.agg (GSetting.C s)] = some (.int .i64 (if 0 < s.v then 1 else if s.v < 0 then -1 else 0)) := by
  refine q_by t_tier_Part (Gives_of rfl ?_)
  by_cases c1 : 0 < s.v
  · simp (disch := omega) [e_tier_Part, c1]
  · by_cases c2 : s.v < 0
    · simp (disch := omega) [e_tier_Part, c1, c2]
    · simp (disch := omega) [e_tier_Part, c1, c2]

theorem q_awake : Cm.q f_culetlaw16_awake [] = some (.bool true) := by
  refine q_by t_culetlaw16_awake (Gives_of rfl ?_)
  have o1 : Cm.q f_tier_Orbit [.int .i64 4, .bool true, .int .i64 1] = some (slA 1 i64A (some [1, 5, 7, 11, 13, 17, 19, 23])) := by
    rw [q_Orbit 4 true (by unfold I64; omega)]; rfl
  have o2 : Cm.q f_tier_Orbit [.int .i64 4, .bool true, .int .i64 3] = some (slA 1 i64A (some [3, 9, 15, 21])) := by
    rw [q_Orbit 4 true (by unfold I64; omega)]; rfl
  have s1 := q_SameInts (some [1, 5, 7, 11, 13, 17, 19, 23]) (some [1, 5, 7, 11, 13, 17, 19, 23]) (by simp)
  have s2 := q_SameInts (some [3, 9, 15, 21]) (some [3, 9, 15, 21]) (by simp)
  have p := q_Part ⟨1, -1, set0.index⟩
  simp [slA] at o1 o2 s1 s2 p
  simp [e_culetlaw16_awake, o1, o2, s1, s2, p]

/-- What a design is assumed to be: sizes that the types give. -/
structure GDesign.W (d : GDesign) : Prop where
  r : ∀ t ∈ lst d.tiers, (lst t.fix.refs).length < 2 ^ 62
  i : ∀ t ∈ lst d.tiers, ∀ i ∈ lst t.indices, I64 i

theorem few_L {x : GNum} (h : fewB x = true) : x.L 200 := by
  simp only [fewB, Bool.and_eq_true, decide_eq_true_eq] at h
  exact ⟨h.1.1.1.2, h.1.1.2, h.1.2, h.2, h.1.1.1.1⟩
theorem few_fix {f : GFix} (h : fewFixB f = true) : GFix.L f := by
  simp only [fewFixB, Bool.and_eq_true, decide_eq_true_eq, List.all_eq_true] at h
  obtain ⟨⟨⟨⟨⟨h1, h2⟩, h3⟩, h4⟩, h5⟩, h6⟩ := h
  exact ⟨few_L h3, ⟨few_L h4, few_L h5, few_L h6⟩, by omega, fun r hr => by have := h1 r hr; omega⟩
theorem few_L_design {d : GDesign} (hw : GDesign.W d) (h : fewD d = true) : GDesign.L d := by
  simp only [fewD, Bool.and_eq_true, decide_eq_true_eq, List.all_eq_true] at h
  refine ⟨by omega, fun t ht => ?_⟩
  have h3 := h.2 t ht
  simp only [fewTier, Bool.and_eq_true, decide_eq_true_eq] at h3
  exact ⟨by omega, by omega, hw.i t ht, few_fix h3.2⟩
end Go.Proofs.YteaopgkajbfkeaaGreatDoor
namespace Go.Proofs.YteaopgkajbfkeaaGreatDoor
open Go

theorem q_Prefix_all (d : GDesign) (hw : GDesign.W d) (h : fewD d = true) {m : Nat} (hm : m ≤ (lst d.tiers).length) : Cm.q f_tier_Prefix [.agg (GDesign.C d), .int .i64 m] = some (.tup [.agg (GDesign.C (pre d m)), .int .i64 0]) := by
  simp only [fewD, Bool.and_eq_true, decide_eq_true_eq, List.all_eq_true] at h
  by_cases h0 : m = 0
  · subst h0; exact q_Prefix_nil d
  · refine q_Prefix d hm (by omega) (by omega) (fun t ht => ?_) (fun t ht => ?_)
    · have := h.2 t ht
      simp only [fewTier, Bool.and_eq_true, decide_eq_true_eq] at this
      omega
    · have := h.2 t ht
      simp only [fewTier, fewFixB, Bool.and_eq_true, decide_eq_true_eq] at this
      omega
theorem L_pre {d : GDesign} (h : GDesign.L d) (m : Nat) : GDesign.L (pre d m) :=
  ⟨h.n, fun t ht => h.t t (by rw [pre_tiers] at ht; exact List.mem_of_mem_take ht)⟩

theorem listed_len (d : GDesign) : (lst (listedR d).1).length ≤ 480 := by
  unfold listedR
  split
  · simp
  · split
    · simp
    · split
      · simp
      · have := outs_len d (lst d.tiers).length
        split
        · simp
        · simp only; omega

set_option maxHeartbeats 2000000 in
theorem q_TierPrefix (d : GDesign) (hw : GDesign.W d) (n : Nat) (hn : n < 256) : Cm.q f_culetlaw16_TierPrefix [.agg (GDesign.C d), .int .u8 n] = some (.bool true) := by
  refine q_by t_culetlaw16_TierPrefix (Gives_of rfl ?_)
  have k0 := q_awake
  have hr62 : ∀ t ∈ lst d.tiers, (lst t.fix.refs).length < 2 ^ 62 := hw.r
  have k1 := q_Few d hr62
  cases hf : fewD d
  · rw [hf] at k1
    simp (disch := omega) [e_culetlaw16_TierPrefix, k0, k1]
  · rw [hf] at k1
    have hL := few_L_design hw hf
    have k2 := q_Facets d hL
    by_cases he : (listedR d).2.2 = 0
    · have ht : (lst d.tiers).length ≤ 22 := by
        simp only [fewD, Bool.and_eq_true, decide_eq_true_eq] at hf; exact hf.1.2
      have hmod : n % ((lst d.tiers).length + 1) ≤ (lst d.tiers).length := Nat.le_of_lt_succ (Nat.mod_lt _ (by omega))
      have hmI : ((n : Int) % ((lst d.tiers).length + 1)) = ((n % ((lst d.tiers).length + 1) : Nat) : Int) := by simp
      generalize n % ((lst d.tiers).length + 1) = m at *
      have k3 := q_Prefix_all d hw hf hmod
      obtain ⟨he2, t, htl⟩ := listed_pre he hmod
      have k4 := q_Facets (pre d m) (L_pre hL m)
      generalize pre d m = p at *
      have hlen : (lst (listedR p).1).length ≤ (lst (listedR d).1).length := by rw [htl]; simp
      have k5 := q_SameFacets (listedR p).1 (cutS (listedR d).1 0 (lst (listedR p).1).length) (by have := listed_len p; omega)
      have hsame : lst (listedR p).1 = lst (cutS (listedR d).1 0 (lst (listedR p).1).length) := by
        rw [lst_cutS, htl]; simp
      rw [decide_eq_true hsame] at k5
      rw [he] at k2
      rw [he2] at k4
      generalize (listedR p).1 = lp at *
      generalize (listedR d).1 = ld at *
      simp (disch := omega) [e_culetlaw16_TierPrefix, k0, k1, k2, hmI, k3, k4]
      rw [slslV_slA_hi (n := (lst lp).length) (by simp (disch := omega)) hlen]
      simp (disch := omega) [k5]
    · simp (disch := omega) [e_culetlaw16_TierPrefix, k0, k1, k2, he]
end Go.Proofs.YteaopgkajbfkeaaGreatDoor
namespace Go.Proofs.YteaopgkajbfkeaaGreatDoor
open Go
theorem wf_i64 {n : Int} (h : (Lit.int .i64 n).wf = true) : I64 n := by
  simp [Lit.wf, IntKind.min, IntKind.max] at h
  unfold I64
  simp [IntKind.signed, IntKind.bits] at h
  omega
theorem wf_u8 {n : Int} (h : (Lit.int .u8 n).wf = true) : 0 ≤ n ∧ n < 256 := by
  simp [Lit.wf, IntKind.min, IntKind.max] at h
  simp [IntKind.signed, IntKind.bits] at h
  omega
theorem reach62 {n : Nat} (h : n ≤ reachBytes) : n < 2 ^ 62 := by
  unfold reachBytes at h; omega
theorem GDesign.W_of {d : GDesign} (h : GDesign.T d) : GDesign.W d := by
  obtain ⟨_, _, _, ⟨h, _⟩, _⟩ := h
  refine ⟨fun t ht => ?_, fun t ht i hi => ?_⟩
  · obtain ⟨_, _, _, _, ⟨_, _, _, ⟨_, hr⟩, _⟩, _⟩ := h t ht
    exact reach62 hr
  · obtain ⟨_, _, _, ⟨hi', _⟩, _⟩ := h t ht
    exact wf_i64 (hi' i hi)
theorem law_holds (us : List AV) (h : ∃ (x0 : GDesign) (x1 : Int), us = [(fun x => AV.agg (GDesign.C x)) x0, (fun n : Int => AV.int .u8 n) x1] ∧ GDesign.T x0 ∧ (fun n => (Lit.int .u8 n).wf = true) x1) : Cm.q f_culetlaw16_TierPrefix us = some (.bool true) := by
  obtain ⟨d, n, rfl, h0, h1⟩ := h
  obtain ⟨h1, h2⟩ := wf_u8 h1
  obtain ⟨m, rfl⟩ : ∃ m : Nat, n = m := ⟨n.toNat, by omega⟩
  exact q_TierPrefix d (GDesign.W_of h0) m (by omega)
end Go.Proofs.YteaopgkajbfkeaaGreatDoor
