/- From a row's reading of an argument to data of the evaluator: what is read at a type is data of a shape, and its strings and slices are no longer than a row lets them be. -/
import Derived.Test.YteaopgkajbfkeaaGreatDoorWAG
import Derived.ProofKit
import Derived.Deep.Slices
import Derived.OpenShut
set_option linter.unusedSimpArgs false
set_option linter.unusedVariables false
namespace Go.Proofs.YteaopgkajbfkeaaGreatDoor
open Go

section
variable {H : Type} {enc : TypeId × Value → H} {P : Program} {w : World} {base : Nat} {spare : Nat → Bool} {held : Bool}

/-- All is shown, nothing is owned. -/
def G0 : Gh := ⟨fun _ => .imm, fun _ => none⟩

/-- What a reading weighs. -/
def Wt (l : List Nat) : Prop := ∀ n ∈ l, n ≤ reachBytes

/-- What is read at a type is data of a shape. -/
def Rd (enc : TypeId × Value → H) (P : Program) (w : World) (base : Nat) (spare : Nat → Bool) (held : Bool) (t : TypeId) {α : Type} (C : α → List AV) (ok : α → Prop) : Prop :=
  ∀ fuel cs x, DataW.trod enc P w base spare held fuel t cs = some x → Wt (x.1.weights P t) → ∃ a, VCs w G0 (C a) cs ∧ ok a

theorem Rd_bool {t : TypeId} (ht : P.underlying t = some .bool) : Rd enc P w base spare held t (fun b : Bool => [AV.bool b]) (fun _ => True) := by
  intro fuel cs x h _
  obtain ⟨b, rfl, _⟩ := DataW.trod_bool ht h
  exact ⟨b, .cons (.bool b) .nil, trivial⟩
theorem Rd_int {t : TypeId} {k : IntKind} (ht : P.underlying t = some (.int k)) : Rd enc P w base spare held t (fun n : Int => [AV.int k n]) (fun n => (Lit.int k n).wf = true) := by
  intro fuel cs x h _
  obtain ⟨n, rfl, _, hw⟩ := DataW.trod_int ht h
  exact ⟨n, .cons (.int k n) .nil, hw⟩
theorem Rd_str {t : TypeId} (ht : P.underlying t = some .string) : Rd enc P w base spare held t (fun s : List UInt8 => [AV.str s]) (fun s => s.length ≤ reachBytes) := by
  intro fuel cs x h hw
  obtain ⟨⟨⟨s⟩⟩, rfl, rfl, _⟩ := DataW.trod_string ht h
  refine ⟨s, .cons (.str s) .nil, hw _ ?_⟩
  simp [DataW.weights]

theorem VCs_append {G : Gh} : ∀ {a b : List AV} {xs ys : List Value}, VCs w G a xs → VCs w G b ys → VCs w G (a ++ b) (xs ++ ys)
  | [], _, _, _, .nil, h => h
  | _ :: _, _, _, _, .cons h t, h2 => .cons h (VCs_append t h2)

/-- What is read at fields in a row. -/
def RdF (enc : TypeId × Value → H) (P : Program) (w : World) (base : Nat) (spare : Nat → Bool) (held : Bool) (fs : List Field) (off : Nat) {α : Type} (C : α → List AV) (ok : α → Prop) : Prop :=
  ∀ n (cs : List Value) (ys : List (DataW H × List MemPlace)), cs.length = off + (fs.map fun f => P.cellsOf f.type).sum → ys.length = fs.length →
    (∀ (i : Nat) f, fs[i]? = some f → DataW.trod enc P w base spare held n f.type ((cs.drop f.offset).take (P.cellsOf f.type)) = ys[i]?) → Wt (DataW.weightsEach P (fs.map (·.type)) (ys.map (·.1))) → ∃ a, VCs w G0 (C a) (cs.drop off) ∧ ok a
theorem RdF_nil {off : Nat} : RdF enc P w base spare held [] off (fun _ : Unit => []) (fun _ => True) := by
  intro n cs ys hl _ _ _
  rw [List.drop_of_length_le (by simp at hl; omega)]
  exact ⟨(), .nil, trivial⟩
theorem RdF_cons {f : Field} {fs : List Field} {off off' : Nat} {α β : Type} {C0 : α → List AV} {C1 : β → List AV} {ok0 : α → Prop} {ok1 : β → Prop} (ho : f.offset = off) (ho' : off + P.cellsOf f.type = off')
    (r0 : Rd enc P w base spare held f.type C0 ok0) (r1 : RdF enc P w base spare held fs off' C1 ok1) : RdF enc P w base spare held (f :: fs) off (fun p : α × β => C0 p.1 ++ C1 p.2) (fun p => ok0 p.1 ∧ ok1 p.2) := by
  intro n cs ys hl hy hf hw
  subst ho'
  match ys, hy with
  | y :: ys, hy =>
  have h0 := hf 0 f rfl
  simp only [List.getElem?_cons_zero] at h0
  simp only [List.map_cons, DataW.weightsEach] at hw
  obtain ⟨a, va, ka⟩ := r0 _ _ _ h0 (fun n hn => hw n (List.mem_append_left _ hn))
  obtain ⟨b, vb, kb⟩ := r1 n cs ys (by simp at hl; omega) (by simpa using hy) (fun i g hg => by simpa using hf (i + 1) g (by simpa using hg)) (fun n hn => hw n (List.mem_append_right _ hn))
  refine ⟨(a, b), ?_, ka, kb⟩
  rw [ho] at va
  have e : cs.drop off = (cs.drop off).take (P.cellsOf f.type) ++ cs.drop (off + P.cellsOf f.type) := by
    rw [← List.drop_drop, List.take_append_drop]
  rw [e]
  exact VCs_append va vb
theorem Rd_struct {t : TypeId} {fs : Array Field} {α : Type} {C : α → List AV} {ok : α → Prop} (ht : P.underlying t = some (.struct fs)) (hs : P.cellsOf t = (fs.toList.map fun f => P.cellsOf f.type).sum)
    (r : RdF enc P w base spare held fs.toList 0 C ok) : Rd enc P w base spare held t C ok := by
  intro fuel cs x h hw
  obtain ⟨xs, n, _, rfl, hl, hlen, hf⟩ := DataW.trod_struct ht h
  simp only [DataW.weights, ht] at hw
  exact r n cs xs (by omega) (by simpa using hlen) (fun i f hm => hf i f (by simpa using hm)) hw
theorem Rd.map {t : TypeId} {α β : Type} {C : α → List AV} {ok : α → Prop} {D : β → List AV} {ok' : β → Prop} (r : Rd enc P w base spare held t C ok) (g : α → β) (hC : ∀ a, ok a → C a = D (g a)) (hk : ∀ a, ok a → ok' (g a)) : Rd enc P w base spare held t D ok' := by
  intro fuel cs x h hw
  obtain ⟨a, va, ka⟩ := r fuel cs x h hw
  exact ⟨g a, hC a ka ▸ va, hk a ka⟩

theorem Wt_all {e : TypeId} : ∀ {l : List (DataW H)}, Wt (DataW.weightsAll P e l) → ∀ d ∈ l, Wt (d.weights P e)
  | [], _, d, hd => by cases hd
  | x :: l, h, d, hd => by
    simp only [DataW.weightsAll] at h
    rcases List.mem_cons.1 hd with rfl | hd
    · exact fun n hn => h n (List.mem_append_left _ hn)
    · exact Wt_all (fun n hn => h n (List.mem_append_right _ hn)) d hd

theorem Rd_array {t e : TypeId} {n : Nat} {α : Type} {C : α → List AV} {ok : α → Prop} (ht : P.underlying t = some (.array n e)) (hs : P.cellsOf t = n * P.cellsOf e) (r : Rd enc P w base spare held e C ok) :
    Rd enc P w base spare held t (fun l : List α => l.flatMap C) (fun l => l.length = n ∧ ∀ x ∈ l, ok x) := by
  intro fuel cs x h hw
  obtain ⟨xs, m, _, rfl, hl, hlen, hf⟩ := DataW.trod_array ht h
  simp only [DataW.weights, ht] at hw
  have hwa := Wt_all hw
  have key : ∀ k, k ≤ n → ∃ l : List α, VCs w G0 (l.flatMap C) (cs.drop ((n - k) * P.cellsOf e)) ∧ l.length = k ∧ ∀ x ∈ l, ok x := by
    intro k
    induction k with
    | zero =>
      intro _
      rw [Nat.sub_zero, List.drop_of_length_le (by omega)]
      exact ⟨[], .nil, rfl, by simp⟩
    | succ k ih =>
      intro hk
      obtain ⟨l, v, hl2, ho⟩ := ih (by omega)
      have h0 := hf (n - (k + 1)) (by omega)
      rw [List.getElem?_eq_getElem (by omega)] at h0
      obtain ⟨a, va, ka⟩ := r _ _ _ h0 (hwa _ (List.mem_map.2 ⟨_, List.getElem_mem (by omega), rfl⟩))
      refine ⟨a :: l, ?_, by simp [hl2], fun y hy => ?_⟩
      · have e1 : (n - k) * P.cellsOf e = (n - (k + 1)) * P.cellsOf e + P.cellsOf e := by
          rw [← Nat.succ_mul]; congr 1; omega
        have e2 : cs.drop ((n - (k + 1)) * P.cellsOf e) = (cs.drop ((n - (k + 1)) * P.cellsOf e)).take (P.cellsOf e) ++ cs.drop ((n - k) * P.cellsOf e) := by
          rw [e1, ← List.drop_drop, List.take_append_drop]
        rw [e2]
        exact VCs_append va v
      · rcases List.mem_cons.1 hy with rfl | hy
        · exact ka
        · exact ho y hy
  obtain ⟨l, v, h1, h2⟩ := key n (Nat.le_refl n)
  rw [Nat.sub_self, Nat.zero_mul, List.drop_zero] at v
  exact ⟨l, v, h1, h2⟩

/-- A slice, all of whose places are read. -/
theorem Rd_slice {t e : TypeId} {α : Type} {C : α → List AV} {ok : α → Prop} (mk : α → AV) (esz : Nat) (hsp : ∀ b, spare b = true) (ht : P.underlying t = some (.slice e)) (he : P.cellsOf e = esz) (hz : 0 < esz) (hb : Nat.ble 1 (P.bytesOf e) = true)
    (r : Rd enc P w base spare held e C ok) (hC : ∀ a, (mk a).cells = C a) (hl : ∀ a, (C a).length = esz) (h1 : ∀ a, (C a).all AV.one = true) :
    Rd enc P w base spare held t (fun o : Sl α => [slA esz mk o]) (fun o => (∀ x ∈ lst o, ok x) ∧ (lst o).length ≤ reachBytes) := by
  intro fuel cs x h hw
  rcases Deep.open_slice ht h with ⟨rfl, _⟩ | ⟨a, len, cap, m, n, D, Pl, rfl, hba, hlc, hcm, hm, rfl, hx⟩
  · exact ⟨none, .cons .nils .nil, by simp [lst], by simp [lst]⟩
  rw [hsp, if_pos rfl] at hm
  subst hm
  rw [he] at hx
  simp only [DataW.weights, ht, List.length_map, List.length_range] at hw
  have hlen : len ≤ reachBytes := by
    have h0 := hw _ List.mem_cons_self
    have h1 := Nat.mul_le_mul (show len ≤ len + (m - len) by omega) (Nat.le_of_ble_eq_true hb)
    omega
  have hwe : ∀ i, i < len → Wt ((D i).weights P e) := by
    intro i hi
    refine Wt_all (P := P) (e := e) (l := (List.range len).map D) (fun n hn => hw n (List.mem_cons_of_mem _ (List.mem_append_left _ hn))) _ (List.mem_map.2 ⟨i, by simpa using hi, rfl⟩)
  have hs : a.spot = none ∨ m = 0 := by
    rcases Nat.eq_zero_or_pos m with h0 | h0
    · exact .inr h0
    · obtain ⟨cs', g1, _⟩ := hx 0 h0
      obtain ⟨_, g2, g3⟩ := World.cells?_some g1
      have g4 := g3 0 hz
      rw [List.getElem?_eq_getElem (by omega)] at g4
      rw [Nat.zero_mul, Deep.add_add, Nat.add_zero] at g4
      have g5 := World.cell?_spot g4
      simp [Addr.add] at g5
      exact .inl g5
  have key : ∀ k, k ≤ len → ∃ (l : List α) (xs : List Value), l.length = k ∧ VCs w G0 (l.flatMap C) xs ∧ xs.length = k * esz ∧ (∀ j x, xs[j]? = some x → w.cell? (a.add j) = some x) ∧ ∀ x ∈ l, ok x := by
    intro k
    induction k with
    | zero => intro _; exact ⟨[], [], rfl, .nil, by simp, by simp, by simp⟩
    | succ k ih =>
      intro hk
      obtain ⟨l, xs, l1, l2, l3, l4, l5⟩ := ih (by omega)
      obtain ⟨cs', g1, g2⟩ := hx k (by omega)
      obtain ⟨b, vb, kb⟩ := r _ _ _ g2 (hwe k (by omega))
      obtain ⟨_, g3, g4⟩ := World.cells?_some g1
      refine ⟨l ++ [b], xs ++ cs', by simp [l1], ?_, by rw [List.length_append, l3, g3, Nat.succ_mul], ?_, ?_⟩
      · rw [List.flatMap_append]
        refine VCs_append l2 ?_
        simpa using vb
      · intro j x hj
        by_cases hjx : j < xs.length
        · rw [List.getElem?_append_left hjx] at hj; exact l4 j x hj
        · rw [List.getElem?_append_right (by omega)] at hj
          have hj2 : j - xs.length < cs'.length := (List.getElem?_eq_some_iff.1 hj).1
          have := g4 (j - xs.length) (by omega)
          rw [Deep.add_add, hj, ← l3, show xs.length + (j - xs.length) = j by omega] at this
          exact this
      · intro x hx
        rcases List.mem_append.1 hx with hx | hx
        · exact l5 x hx
        · obtain rfl := List.mem_singleton.1 hx; exact kb
  obtain ⟨l, xs, l1, l2, l3, l4, l5⟩ := key len (Nat.le_refl _)
  have hcm' : (l.map mk).flatMap AV.cells = l.flatMap C := by
    rw [List.flatMap_map]; congr 1; funext x; exact hC x
  have hall : ((l.map mk).flatMap AV.cells).all AV.one = true := by
    rw [hcm', List.all_flatMap, List.all_eq_true]
    exact fun x _ => h1 x
  obtain ⟨ab, ao, as⟩ := a
  refine ⟨some l, .cons ?_ .nil, by simpa [lst] using l5, by simpa [lst, l1] using hlen⟩
  have := VC.sl (w := w) (G := G0) (esz := esz) (vs := l.map mk) (xs := xs) (k := ab) (o := ao) (cap := m) (sp := as) hz (by simpa [l1] using hlc) (fun v hv => by
    obtain ⟨x, _, rfl⟩ := List.mem_map.1 hv
    rw [hC, hl]) hall ?_ (hcm' ▸ l2) hs
  · rw [List.length_map, l1] at this
    simpa [slA] using this
  · intro j x hj
    refine ⟨?_, trivial⟩
    have := l4 j x hj
    have hs' : as = none := hs.resolve_right (fun h0 => by
      have : xs.length = 0 := by rw [l3]; have : len = 0 := by omega
                                 rw [this, Nat.zero_mul]
      rw [List.length_eq_zero_iff.1 this] at hj; simp at hj)
    subst hs'
    rwa [add_none] at this

/-! ### Arguments -/

theorem okWide_agg {r : Reach} {b0 : Nat} {t : TypeId} {v : Value} (ht : (∃ fs, P.underlying t = some (.struct fs)) ∨ ∃ n e, P.underlying t = some (.array n e)) (hval : Value.okWide P w r b0 t v) : ∃ cs, v = .agg cs := by
  unfold Value.okWide at hval
  rcases ht with ⟨fs, ht⟩ | ⟨n, e, ht⟩ <;> (rw [ht] at hval; exact hval.imp fun _ h => h.1)
theorem okWide_cell {r : Reach} {b0 : Nat} {t : TypeId} {v : Value} (ht : ∀ fs, P.underlying t ≠ some (.struct fs)) (ht' : ∀ n e, P.underlying t ≠ some (.array n e)) (hval : Value.okWide P w r b0 t v) : v.cells = #[v] := by
  cases v <;> try rfl
  exfalso
  unfold Value.okWide at hval
  split at hval
  · rename_i fs h; exact ht _ h
  · rename_i n e h; exact ht' _ _ h
  · unfold Cell.okWide at hval
    split at hval <;> first | (rename_i h1 h2; cases h2; done) | skip
    unfold Cell.ok at hval
    split at hval <;> simp_all

/-- What an argument is. -/
def Arg (enc : TypeId × Value → H) (P : Program) (w : World) (base : Nat) (spare : Nat → Bool) (held : Bool) (t : TypeId) {α : Type} (mk : α → AV) (ok : α → Prop) : Prop :=
  ∀ b0 v d ps, Value.okWide P w .any b0 t v → DataW.Trod enc P w base spare held t v d ps → Wt (d.weights P t) → ∃ a, VC w G0 (mk a) v ∧ ok a
theorem Rd.arg_agg {t : TypeId} {α : Type} {C : α → List AV} {ok : α → Prop} (r : Rd enc P w base spare held t C ok) (ht : (∃ fs, P.underlying t = some (.struct fs)) ∨ ∃ n e, P.underlying t = some (.array n e)) (h1 : ∀ a, (C a).all AV.one = true) :
    Arg enc P w base spare held t (fun a => .agg (C a)) ok := by
  intro b0 v d ps hval ⟨fuel, hd⟩ hw
  obtain ⟨⟨cs⟩, rfl⟩ := okWide_agg ht hval
  obtain ⟨a, va, ka⟩ := r _ _ _ hd hw
  exact ⟨a, .agg va (h1 a), ka⟩
theorem Rd.arg_one {t : TypeId} {α : Type} {f : α → AV} {ok : α → Prop} (r : Rd enc P w base spare held t (fun a => [f a]) ok) (ht : ∀ fs, P.underlying t ≠ some (.struct fs)) (ht' : ∀ n e, P.underlying t ≠ some (.array n e)) :
    Arg enc P w base spare held t f ok := by
  intro b0 v d ps hval ⟨fuel, hd⟩ hw
  rw [okWide_cell ht ht' hval] at hd
  obtain ⟨a, va, ka⟩ := r _ _ _ hd hw
  cases va with
  | cons h _ => exact ⟨a, h, ka⟩

/-- What the arguments are. -/
def Args (enc : TypeId × Value → H) (P : Program) (w : World) (base : Nat) (spare : Nat → Bool) (held : Bool) (ts : List TypeId) (good : List AV → Prop) : Prop :=
  ∀ b0 vs ds ps, (∀ (j : Nat) t v, ts[j]? = some t → vs[j]? = some v → Value.okWide P w .any b0 t v) → DataW.TrodAll enc P w base spare held ts vs ds ps → Wt (DataW.weightsEach P ts ds) → ∃ us, VCs w G0 us vs ∧ good us
theorem Args_nil : Args enc P w base spare held [] (fun us => us = []) := by
  intro b0 vs ds ps _ h _
  obtain ⟨rfl, _, _⟩ := ChangeShapes.trodAll_nil h
  exact ⟨[], .nil, rfl⟩
theorem Args_cons {t : TypeId} {ts : List TypeId} {α : Type} {mk : α → AV} {ok : α → Prop} {good : List AV → Prop} (a : Arg enc P w base spare held t mk ok) (r : Args enc P w base spare held ts good) :
    Args enc P w base spare held (t :: ts) (fun us => ∃ x us', us = mk x :: us' ∧ ok x ∧ good us') := by
  intro b0 vs ds ps hval h hw
  obtain ⟨v, vs', d, ds', p, q, rfl, rfl, rfl, h1, h2⟩ := ChangeShapes.trodAll_cons h
  simp only [DataW.weightsEach] at hw
  obtain ⟨x, vx, kx⟩ := a b0 v d p (hval 0 t v rfl rfl) h1 (fun n hn => hw n (List.mem_append_left _ hn))
  obtain ⟨us, vu, ku⟩ := r b0 vs' ds' q (fun j t v ht hv => hval (j + 1) t v (by simpa using ht) (by simpa using hv)) h2 (fun n hn => hw n (List.mem_append_right _ hn))
  exact ⟨mk x :: us, .cons vx vu, x, us, rfl, kx, ku⟩
theorem Args.mono {ts : List TypeId} {good good' : List AV → Prop} (r : Args enc P w base spare held ts good) (h : ∀ us, good us → good' us) : Args enc P w base spare held ts good' := by
  intro b0 vs ds ps hval ht hw
  obtain ⟨us, v, g⟩ := r b0 vs ds ps hval ht hw
  exact ⟨us, v, h us g⟩
end
end Go.Proofs.YteaopgkajbfkeaaGreatDoor
