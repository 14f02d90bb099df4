/- The library functions that are given their own meaning: strings.Join and strings.Repeat, by the shelf's contracts over any program. -/
import Derived.Test.YteaopgkajbfkeaaGreatDoorWAE
import Derived.Test.YteaopgkajbfkeaaGreatDoorWAF
import Derived.Shelf.Strings.OnBuilder
import Derived.Shelf.Strings.Repeat
set_option linter.unusedSimpArgs false
set_option linter.unusedVariables false
namespace Go.Proofs.YteaopgkajbfkeaaGreatDoor
open Go Go.Shelf Go.RowKit

theorem strsOf_some : ∀ {vs : List AV} {l : List (List UInt8)}, strsOf vs = some l → vs = l.map AV.str
  | [], l, h => by simp [strsOf] at h; subst h; rfl
  | .str s :: vs, l, h => by
    simp only [strsOf, Option.map_eq_some_iff] at h
    obtain ⟨r, hr, rfl⟩ := h
    rw [strsOf_some hr]; rfl

theorem vcs_strs {w : World} {G : Gh} : ∀ {l : List (List UInt8)} {ys : List Value}, VCs w G ((l.map AV.str).flatMap AV.cells) ys → ys = l.map fun s => Value.string ⟨⟨s⟩⟩
  | [], ys, h => by cases h; rfl
  | s :: l, ys, h => by
    have h' : VCs w G (AV.str s :: (l.map AV.str).flatMap AV.cells) ys := h
    cases h' with
    | cons a t => cases a; rw [vcs_strs t]; rfl

theorem prim_Join {P : Program} {ρ : Ren} (L : Lays.n156 P ρ) (X : Builder.Extra P ρ) {Gl : Nat → Option (List AV)} (hb : callB P (ρ.f 156) = true) : PrimOK P Gl (ρ.f 156) joinP := by
  refine ⟨hb, ?_⟩
  intro args v he w R xs h1 h2 hv hG
  unfold joinP at he
  split at he
  · rename_i vs sep
    simp only [Option.bind_eq_some_iff] at he
    obtain ⟨l, hl, he⟩ := he
    split at he
    · rename_i hlen
      obtain rfl := Option.some.inj he
      obtain rfl := strsOf_some hl
      cases hv with
      | cons a t =>
      cases t with
      | cons b t =>
      cases t
      cases b
      cases a with
      | sl hz hc hl' ho hr h hsp =>
      rename_i k o cap sp
      obtain rfl := vcs_strs h
      by_cases h0 : l = []
      · subst h0
        refine (Any.strings_Join_none L X (some ⟨k, o, sp⟩) cap ⟨⟨sep⟩⟩ w).mono ?_
        rintro e w' ⟨rfl, rfl⟩
        exact ⟨_, rfl, Below.refl _ _, ⟨R, fun _ => none⟩, fun _ _ => rfl, .str []⟩
      · obtain rfl : sp = none := hsp.resolve_right (fun h => by
          subst h; simp at hc; exact h0 hc)
        have hcells : ∀ (j : Nat) x, (l.map fun s => (⟨⟨s⟩⟩ : ByteArray))[j]? = some x → w.cell? ⟨k, o + j, none⟩ = some (.string x) := by
          intro j x hj
          simp only [List.getElem?_map, Option.map_eq_some_iff] at hj
          obtain ⟨s, hs, rfl⟩ := hj
          exact (hr j (.string ⟨⟨s⟩⟩) (by simp [hs])).1
        have hmap : (l.map fun s => (⟨⟨s⟩⟩ : ByteArray)).map (·.data.toList) = l := by
          rw [List.map_map]; show l.map (fun s => s) = l; simp
        have hbk : k < w.heap.size := by
          cases l with
          | nil => exact absurd rfl h0
          | cons s l =>
            have h3 := hcells 0 ⟨⟨s⟩⟩ rfl
            apply Classical.byContradiction
            intro hk
            have h4 : w.heap[k]? = none := by simp; omega
            simp [World.cell?, h4] at h3
        have key := Any.strings_Join L X k o cap (l.map fun s => (⟨⟨s⟩⟩ : ByteArray)) ⟨⟨sep⟩⟩ w hcells hbk (by simp; simp only [LIM] at hlen; omega) (by simpa using hc) (by rw [hmap]; simp only [LIM, Lib.join] at *; omega)
        rw [hmap, List.length_map] at key
        rw [List.length_map]
        refine key.mono ?_
        rintro e w' ⟨rfl, hB⟩
        exact ⟨_, rfl, hB, ⟨R, fun _ => none⟩, fun _ _ => rfl, .str _⟩
    · simp at he
  · obtain rfl := Option.some.inj he
    cases hv with
    | cons a t =>
    cases t with
    | cons b t =>
    cases t
    cases b
    cases a
    refine (Any.strings_Join_none L X none 0 _ w).mono ?_
    rintro e w' ⟨rfl, rfl⟩
    exact ⟨_, rfl, Below.refl _ _, ⟨R, fun _ => none⟩, fun _ _ => rfl, .str []⟩
  · simp at he

theorem repeatL_eq (s : List UInt8) : ∀ n, Lib.repeatL s n = (List.replicate n s).flatten
  | 0 => rfl
  | n + 1 => by rw [Lib.repeatL, repeatL_eq s n]; rfl
theorem prim_Repeat {P : Program} {ρ : Ren} (L : Lays.n105 P ρ) (X : Builder.Extra P ρ) {Gl : Nat → Option (List AV)} (hb : callB P (ρ.f 105) = true) : PrimOK P Gl (ρ.f 105) repeatP := by
  refine ⟨hb, ?_⟩
  intro args v he w R xs h1 h2 hv hG
  unfold repeatP at he
  split at he
  · rename_i s n
    split at he
    · rename_i hn
      obtain rfl := Option.some.inj he
      cases hv with
      | cons a t =>
      cases t with
      | cons b t =>
      cases t
      cases b
      cases a
      obtain ⟨c, rfl⟩ : ∃ c : Nat, n = c := ⟨n.toNat, by omega⟩
      simp only [Int.toNat_natCast, LIM] at hn
      have key := Any.strings_Repeat L X ⟨⟨s⟩⟩ c w (by omega) (by show s.length * c ≤ _; omega)
      rw [repeatL_eq] at key
      refine key.mono ?_
      rintro e w' ⟨rfl, hB⟩
      exact ⟨_, rfl, hB, ⟨R, fun _ => none⟩, fun _ _ => rfl, .str _⟩
    · simp at he
  · simp at he
end Go.Proofs.YteaopgkajbfkeaaGreatDoor
