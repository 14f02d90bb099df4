/- Calls on the common memory; every operation against the model's. Every operation that the check lets through is carried out as the evaluator says. A region's operations in whatever order: those that are not ordered may change places. Two operations that are not ordered change places; a region in any order. -/
import Derived.Test.YteaopgkajbfkeaaGreatDoorWAC
import Derived.Test.YteaopgkajbfkeaaGreatDoorWAA
set_option linter.unusedSimpArgs false
set_option linter.unusedVariables false
namespace Go.Proofs.YteaopgkajbfkeaaGreatDoor
open Go Go.RowKit

variable {Gl : Nat → Option (List AV)} {base : Nat} {F : Fr} {w : World} {G : Gh} {sl : List AV} {h : Store} {a : Act} {P : Program} {C : Env} {b0 : Nat}

structure EnvOK (P : Program) (Gl : Nat → Option (List AV)) (C : Env) : Prop where
  g : C.g = Gl
  q : QOK P Gl C.q
  m : MOK P Gl C.m
  k : KOK P Gl C.k
  qb : ∀ g us v, C.q g us = some v → callB P g = true
  mb : ∀ g us h r, C.m g us h = some r → callB P g = true
  kb : ∀ g us h r, C.k g us h = some r → callB P g = true

theorem m_end (s : SR Gl base F w G a.tmps sl h) (hm : MOK P Gl C.m) {g : Nat} {us : List AV} {xs : List Value} {v : AV} {h' : Store} (dst : Option Nat) (hv : VRs w G us xs) (hu : ∀ v ∈ us, v.untip = v) (hc : C.m g us h = some (v, h')) :
    CallEnds P Gl base F w G a dst (setOpt sl dst v) h' g ⟨xs⟩ := by
  refine (hm g us h v h' hc base (F.with a.tmps sl) w G xs s.leave hv hu).mono ?_
  rintro e w' ⟨y, rfl, hb, G', E, s', hvy⟩
  exact ⟨y, rfl, G', E, hb, (s.back E s').putO dst (.c hvy) hvy.noTip⟩

theorem k_end (s : SR Gl base F w G a.tmps sl h) (hk : KOK P Gl C.k) {g : Nat} {us : List AV} {xs : List Value} {v : AV} {h' : Store} (dst : Option Nat) (hv : VRs w G us xs) (hu : ∀ v ∈ us, v.untip = v) (hc : C.k g us h = some (v, h')) :
    CallEnds P Gl base F w G a dst (setOpt sl dst v) h' g ⟨xs⟩ := by
  refine (hk g us h v h' hc base (F.with a.tmps sl) w G xs s.leave hv hu).mono ?_
  rintro e w' ⟨y, rfl, hb, G', E, s', hvy, ht⟩
  refine ⟨y, rfl, G', E, hb, ?_⟩
  have sb := s.back E s'
  cases dst with
  | none => exact sb
  | some d =>
    refine sb.putTip d hvy (fun t htt => ⟨(ht t htt).1, fun l t' a' e => ?_⟩)
    exfalso
    cases a' with
    | slot hv hx h3 => exact (ht t htt).2 _ _ (.fr (F := F.with a.tmps sl) (.inr ⟨_, _, _, hv, hx, h3⟩)) e
    | cell hb hv hr hx h3 => exact (ht t htt).2 _ _ (.cell hb hv hr hx h3) e
    | fr h3 => exact (ht t htt).2 _ _ (.fr (F := F.with a.tmps sl) (.inl h3)) e

theorem map_untips {ps : List POpd} : ∀ v ∈ ps.map (fun x => (POpd.get sl x).untip), v.untip = v := by
  intro v hv
  obtain ⟨p, _, rfl⟩ := List.mem_map.1 hv
  exact untip_untip _

theorem op_callm (s : SR Gl base F w G a.tmps sl h) (hm : MOK P Gl C.m) {g : Nat} {xs : List Operand} {ps : List POpd} {v : AV} {h' : Store} (dst : Option Nat) (hp : opdsB xs ps = true) (he : evOp C b0 (.callm g ps) sl h = some (v, h')) :
    CallEnds P Gl base F w G a dst (setOpt sl dst v) h' g (xs.map a.eval).toArray := by
  have hx := (opdsB_ok s hp).untip
  rw [List.map_map] at hx
  exact m_end s hm dst hx map_untips he

theorem op_callk (s : SR Gl base F w G a.tmps sl h) (hk : KOK P Gl C.k) {g : Nat} {xs : List Operand} {ps : List POpd} {v : AV} {h' : Store} (dst : Option Nat) (hp : opdsB xs ps = true) (he : evOp C b0 (.callk g ps) sl h = some (v, h')) :
    CallEnds P Gl base F w G a dst (setOpt sl dst v) h' g (xs.map a.eval).toArray := by
  have hx := (opdsB_ok s hp).untip
  rw [List.map_map] at hx
  exact k_end s hk dst hx map_untips he

theorem op_callv (s : SR Gl base F w G a.tmps sl h) (hm : MOK P Gl C.m) {f : Operand} {pf : POpd} {xs : List Operand} {ps : List POpd} {v : AV} {h' : Store} (dst : Option Nat) (hf : opdB f pf = true) (hp : opdsB xs ps = true)
    (he : evOp C b0 (.callv pf ps) sl h = some (v, h')) :
    ∃ g us fs cs, a.eval f = .func (.func g) ⟨fs⟩ ⟨cs⟩ ∧ C.m g us h = some (v, h') ∧ CallEnds P Gl base F w G a dst (setOpt sl dst v) h' g ⟨fs ++ xs.map a.eval ++ cs⟩ := by
  have hx := (opdsB_ok s hp).untip
  rw [List.map_map] at hx
  have hfv := opdB_ok s hf
  simp only [evOp] at he
  generalize POpd.get sl pf = u at hfv he
  cases u <;> simp only [reduceCtorEq] at he
  rename_i g first caps
  obtain ⟨fs, cs, e, h1, h2⟩ := hfv.fns
  refine ⟨g, _, fs, cs, e, he, m_end s hm dst ((h1.untip.append hx).append h2.untip) ?_ he⟩
  intro v hv
  simp only [List.mem_append] at hv
  rcases hv with (hv | hv) | hv
  · exact untips _ v hv
  · exact map_untips v hv
  · exact untips _ v hv

/-- The model's operation and the resolved one: the same, as far as the evaluator goes. -/
def opB (P : Program) (o : Op) (dst : Option Nat) (p : POp) : Bool :=
  match p, o with
  | .bad, _ => true
  | .mv y, .move x => opdB x y
  | .mv y, .assign x => opdB x y
  | .tk n, .move (.tmp t) => t == n && dst.isSome
  | .tk n, .assign (.tmp t) => t == n && dst.isSome
  | .pick c x y, .pick c' x' y' => opdB c' c && opdB x' x && opdB y' y
  | .alloc esz ag zero, .alloc t => zeroB P t zero && decide (0 < esz) && (ag || esz == 1)
  | .allocH d esz ag zero, .alloc t => zeroB P t zero && decide (0 < esz) && (ag || esz == 1) && dst == some d
  | .box esz ag _ x, .box _ x' => opdB x' x && decide (0 < esz) && (ag || esz == 1)
  | .build zero ps, .build t ops => zeroB P t zero && buildB P t ops.toList ps
  | .buildSl _ esz ag len zero ps, .buildSlice t len' ops =>
    (match P.underlying t with
     | some (.slice e) => zeroB P e zero && zero.length == esz && len == len' && decide (len * esz ≤ 16777216) && decide (0 < esz) && (ag || esz == 1) && dst.isSome &&
        partsB (fun i => some (i * esz, esz)) ops.toList (ps.map fun p => (p.1 * esz, esz, p.2))
     | _ => false)
  | .buildZ _, .buildSlice t len' ops => (match P.underlying t with | some (.slice e) => (P.info? e).isSome | _ => false) && len' == 0 && ops.toList.isEmpty
  | .load ag sz x, .load t x' => tyIs P t ag sz && opdB x' x
  | .loadD _ ag sz x, .load t x' => tyIs P t ag sz && opdB x' x
  | .store sz x y, .store t x' y' => (match P.info? t with | some i => i.size == sz | none => false) && opdB x' x && opdB y' y
  | .loadT x, .load t x' => tyIs P t false 1 && opdB x' x && dst.isSome
  | .storeT x n, .store t x' (.tmp m) => (match P.info? t with | some i => i.size == 1 | none => false) && opdB x' x && m == n && dst.isNone
  | .nilchk x, .nilCheck x' => opdB x' x
  | .bin op x y, .binOp op' _ x' y' _ => decide (op = op') && opdB x' x && opdB y' y
  | .eqv neg k x y, .binOp op' t x' y' _ => decide (op' = if neg then .neq else .eql) && eqB P t k y' && opdB x' x && opdB y' y
  | .un op x, .unOp op' _ x' => decide (op = op') && opdB x' x
  | .conv .strBytes x, .convert src dt x' =>
    opdB x' x && dst.isSome && (match P.underlying src, P.underlying dt with | some .string, some (.slice e) => (match P.underlying e with | some (.int .u8) => true | _ => false) | _, _ => false)
  | .conv c x, .convert src dt x' => convB P src dt c && opdB x' x
  | .mkif t x, .makeInterface t' x' => t == t' && opdB x' x && (match P.underlying t with | some (.interface _) => false | some _ => true | none => false)
  | .mkfn f first caps, .makeFunc (.func f') first' caps' => f == f' && opdsB first'.toList first && opdsB caps'.toList caps
  | .mksl _ esz ag zero x y, .makeSlice t x' y' =>
    (match P.underlying t with
     | some (.slice e) => (match P.info? e with | some i => decide (i.bytes ≤ 4096) | none => false) && zeroB P e zero && zero.length == esz && decide (0 < esz) && (ag || esz == 1) && dst.isSome && opdB x' x && opdB y' y
     | _ => false)
  | .slstr x lo hi, .slice t x' lo' hi' mx' => (match P.underlying t with | some .string => true | _ => false) && opdB x' x && optB lo' lo && optB hi' hi && mx'.isNone
  | .slsl esz x lo hi mx, .slice t x' lo' hi' mx' => slB P t esz && opdB x' x && optB lo' lo && optB hi' hi && optB mx' mx && (mx.isNone || hi.isSome)
  | .slz esz x, .slice t x' lo' hi' mx' => slB P t esz && opdB x' x && lo'.isNone && optB hi' (some (ci 0)) && optB mx' (some (ci 0))
  | .slarr n esz x lo hi mx, .slice t x' lo' hi' mx' => arrB P t n esz && opdB x' x && optB lo' lo && optB hi' hi && optB mx' mx && (mx.isNone || hi.isSome)
  | .faddr off x, .fieldAddr t x' f =>
    (match P.underlying t with
     | some (.struct fs) => (match fs[f]? with | some fd => (match P.underlying fd.type, P.info? fd.type with | some d, some i => fieldB P t f (isAggD d) off i.size | _, _ => false) | none => false)
     | _ => false) && opdB x' x
  | .field ag off sz x, .field t x' f => fieldB P t f ag off sz && opdB x' x
  | .iarr n esz x i, .indexAddr t x' i' => arrB P t n esz && opdB x' x && opdB i' i
  | .isl esz x i, .indexAddr t x' i' => slB P t esz && opdB x' x && opdB i' i
  | .ixarr n esz ag x i, .index t x' i' => arrB P t n esz && (match P.underlying t with | some (.array _ e) => tyIs P e ag esz | _ => false) && opdB x' x && opdB i' i
  | .ixstr x i, .index t x' i' => (match P.underlying t with | some .string => true | _ => false) && opdB x' x && opdB i' i
  | .ext x i, .extract x' i' => i == i' && opdB x' x
  | .len str x, .call c =>
    (match c.callee, c.argTypes[0]?, c.args.toList with | .builtin .len, some t, [x'] => lenB P t str && opdB x' x | _, _, _ => false)
  | .max xs, .call c => (match c.callee with | .builtin .max => opdsB c.args.toList xs && decide (2 ≤ xs.length) | _ => false)
  | .min xs, .call c => (match c.callee with | .builtin .min => opdsB c.args.toList xs && decide (2 ≤ xs.length) | _ => false)
  | .app esz x y, .call c => (match c.callee, c.args.toList with | .builtin .append, [x', y'] => appB P c.argTypes esz && opdB x' x && opdB y' y && dst.isSome | _, _ => false)
  | .appo esz ag x y, .call c => (match c.callee, c.args.toList with | .builtin .append, [x', y'] => appB P c.argTypes esz && opdB x' x && opdB y' y && (ag || esz == 1) | _, _ => false)
  | .callq g xs, .call c => (match c.callee with | .value (.func g') => g == g' && opdsB c.args.toList xs | _ => false)
  | .callqs g xs, .call c => (match c.callee with | .value (.func g') => g == g' && opdsB c.args.toList xs | _ => false)
  | .callm g xs, .call c => (match c.callee with | .value (.func g') => g == g' && opdsB c.args.toList xs | _ => false)
  | .callk g xs, .call c => (match c.callee with | .value (.func g') => g == g' && opdsB c.args.toList xs | _ => false)
  | .callv f xs, .call c => (match c.callee with | .value f' => opdB f' f && opdsB c.args.toList xs | _ => false)
  | _, _ => false

/-- The operation is carried out, and what comes next finds the evaluator's state. -/
def Carries (P : Program) (Gl : Nat → Option (List AV)) (base : Nat) (F : Fr) (w : World) (G : Gh) (a : Act) (o : Oper) (sl' : List AV) (h' : Store) : Prop :=
  ∀ (K : Act → World → Prop) (Q : Exit → Act → World → Prop), (∀ y w', Ends Gl base F w G a o.dst sl' h' y w' → K (a.put o.dst y) w') → o.wp P a w K Q

theorem carries_value {o : Oper} {m : Sem Value} {sl' : List AV} {h' : Store} (he : execOp a.eval o = (do pure (.value (← m)))) (hm : Makes P Gl base F w G a o.dst sl' h' m) : Carries P Gl base F w G a o sl' h' := by
  intro K Q hk
  obtain ⟨y, w', hr, hE⟩ := hm
  have : (execOp a.eval o).run P w = .ok (.value y) w' := by rw [he, Sem.run_bind, hr]; rfl
  simp only [Oper.wp, this, Oper.upon]
  exact hk y w' hE

theorem carries_skip {o : Oper} {m : Sem Unit} {sl' : List AV} {h' : Store} (he : execOp a.eval o = (do m; pure .skip)) (hm : ∃ w', m.run P w = .ok () w' ∧ Ends Gl base F w G a o.dst sl' h' undef w') : Carries P Gl base F w G a o sl' h' := by
  intro K Q hk
  obtain ⟨w', hr, hE⟩ := hm
  have : (execOp a.eval o).run P w = .ok .skip w' := by rw [he, Sem.run_bind, hr]; rfl
  simp only [Oper.wp, this, Oper.upon]
  exact hk _ w' hE

theorem carries_call {o : Oper} {g : FuncId} {xs : Array Value} {sl' : List AV} {h' : Store} (he : (execOp a.eval o).run P w = .ok (.enter g xs) w) (hc : CallEnds P Gl base F w G a o.dst sl' h' g xs) : Carries P Gl base F w G a o sl' h' := by
  intro K Q hk
  simp only [Oper.wp, he, Oper.upon]
  refine hc.mono ?_
  rintro e w' ⟨y, rfl, hE⟩
  exact hk y w' hE

theorem exec_call {o : Oper} {c : Call} {g : FuncId} {fs cs : List Value} {f : Operand} (ho : o.op = .call c) (hc : c.callee = .value f) (hf : a.eval f = .func (.func g) ⟨fs⟩ ⟨cs⟩) (hb : callB P g = true) :
    (execOp a.eval o).run P w = .ok (.enter g ⟨fs ++ c.args.toList.map a.eval ++ cs⟩) w := by
  unfold execOp
  rw [ho]
  simp only [Sem.run_bind, resolve, hc, hf, Deferred.ofValue, Sem.run_pure, Result.andThen_ok, invoke]
  rw [run_callFunc hb]
  congr 2
  apply Array.ext'
  simp

end Go.Proofs.YteaopgkajbfkeaaGreatDoor
namespace Go.Proofs.YteaopgkajbfkeaaGreatDoor
open Go Go.RowKit

variable {Gl : Nat → Option (List AV)} {base : Nat} {F : Fr} {w : World} {G : Gh} {sl : List AV} {h : Store} {a : Act} {P : Program} {C : Env} {b0 : Nat}

theorem agOr {ag : Bool} {esz : Nat} (h : (ag || esz == 1) = true) : ag = false → esz = 1 := by
  intro e; subst e; simpa using h

theorem putRes_plain {dst : Option Nat} {grd : Option (Nat × Bool)} {p : POp} {v : AV} {sl : List AV} (h1 : ∀ n, p ≠ .tk n) (h2 : ∀ e n q, p ≠ .app e (.s n) q) (h3 : ∀ a n, p ≠ .storeT a n) : putRes ⟨dst, grd, p⟩ v sl = setOpt sl dst v := by
  unfold putRes setOpt
  cases p <;> first | rfl | (exact absurd rfl (h1 _)) | (exact absurd rfl (h3 _ _)) | skip
  rename_i e s x
  cases s <;> first | rfl | (exact absurd rfl (h2 _ _ _))

set_option maxHeartbeats 1000000 in
theorem op_sound (hC : EnvOK P Gl C) {o : Oper} {r : PRow} (hd : r.dst = o.dst) (hb : opB P o.op o.dst r.op = true) (s : SR Gl base F w G a.tmps sl h) {v : AV} {h' : Store} (he : evOp C b0 r.op sl h = some (v, h')) :
    Carries P Gl base F w G a o (putRes r v sl) h' := by
  obtain ⟨dst, grd, p⟩ := r
  simp only at hd he hb
  subst hd
  have ex : execOp a.eval o = execOp a.eval o := rfl
  generalize hop : o.op = op at hb
  have val : ∀ {m : Sem Value}, (∀ n, p ≠ .tk n) → (∀ e n q, p ≠ .app e (.s n) q) → (∀ a n, p ≠ .storeT a n) → execOp a.eval o = (do pure (.value (← m))) → Gives P w G m v ∧ h' = h → Carries P Gl base F w G a o (putRes ⟨o.dst, grd, p⟩ v sl) h' := by
    intro m h1 h2 h3 hm hg
    rw [putRes_plain h1 h2 h3]
    obtain ⟨hg, rfl⟩ := hg
    exact carries_value hm (hg.makes s o.dst)
  have mk : ∀ {m : Sem Value}, (∀ n, p ≠ .tk n) → (∀ e n q, p ≠ .app e (.s n) q) → (∀ a n, p ≠ .storeT a n) → execOp a.eval o = (do pure (.value (← m))) → Makes P Gl base F w G a o.dst (setOpt sl o.dst v) h' m → Carries P Gl base F w G a o (putRes ⟨o.dst, grd, p⟩ v sl) h' := by
    intro m h1 h2 h3 hm hg
    rw [putRes_plain h1 h2 h3]
    exact carries_value hm hg
  have fin : ∀ y, (∀ n, p ≠ .tk n) → (∀ e n q, p ≠ .app e (.s n) q) → (∀ a n, p ≠ .storeT a n) → VR w G v y → tipOf v y = none → h' = h → (execOp a.eval o).run P w = .ok (.value y) w → Carries P Gl base F w G a o (putRes ⟨o.dst, grd, p⟩ v sl) h' := by
    intro y g1 g2 g3 h1 h2 h3 h4 K Q hk
    rw [putRes_plain g1 g2 g3] at hk
    simp only [Oper.wp, h4, Oper.upon]
    subst h3
    exact hk y w ⟨G, Ext.refl _ _, Below.refl _ _, s.putO _ h1 h2⟩
  unfold opB at hb
  split at hb
  -- bad
  · simp only [evOp, reduceCtorEq] at he
  -- mv, mv
  · simp only [evOp, Option.some.injEq, Prod.mk.injEq] at he
    obtain ⟨rfl, rfl⟩ := he
    exact val (m := pure (a.eval _)) (by simp) (by simp) (by simp) (by unfold execOp; rw [hop]; rfl) ⟨⟨_, rfl, (opdB_ok s hb).untip, tipOf_untip _ _⟩, rfl⟩
  · simp only [evOp, Option.some.injEq, Prod.mk.injEq] at he
    obtain ⟨rfl, rfl⟩ := he
    exact val (m := pure (a.eval _)) (by simp) (by simp) (by simp) (by unfold execOp; rw [hop]; rfl) ⟨⟨_, rfl, (opdB_ok s hb).untip, tipOf_untip _ _⟩, rfl⟩
  -- tk, tk
  · simp only [evOp, Option.some.injEq, Prod.mk.injEq] at he
    obtain ⟨rfl, rfl⟩ := he
    simp only [Bool.and_eq_true, beq_iff_eq] at hb
    obtain ⟨rfl, hds⟩ := hb
    obtain ⟨d, hd⟩ := Option.isSome_iff_exists.1 hds
    rename_i t
    refine carries_value (m := pure (a.eval (.tmp t))) (by unfold execOp; rw [hop]; rfl) ⟨_, w, rfl, G, Ext.refl _ _, Below.refl _ _, ?_⟩
    rw [hd]
    exact s.take t d
  · simp only [evOp, Option.some.injEq, Prod.mk.injEq] at he
    obtain ⟨rfl, rfl⟩ := he
    simp only [Bool.and_eq_true, beq_iff_eq] at hb
    obtain ⟨rfl, hds⟩ := hb
    obtain ⟨d, hd⟩ := Option.isSome_iff_exists.1 hds
    rename_i t
    refine carries_value (m := pure (a.eval (.tmp t))) (by unfold execOp; rw [hop]; rfl) ⟨_, w, rfl, G, Ext.refl _ _, Below.refl _ _, ?_⟩
    rw [hd]
    exact s.take t d
  -- pick
  · rename_i c x y c' x' y'
    simp only [Bool.and_eq_true] at hb
    obtain ⟨⟨b1, b2⟩, b3⟩ := hb
    have hc := opdB_ok s b1
    simp only [evOp] at he
    generalize POpd.get sl c = u at hc he
    cases u <;> first | (simp only [reduceCtorEq] at he; done) | skip
    rename_i t
    have hcb := hc.bool
    cases t <;> simp only [Option.some.injEq, Prod.mk.injEq] at he <;> obtain ⟨rfl, rfl⟩ := he
    · exact fin (a.eval y') (by simp) (by simp) (by simp) (opdB_ok s b3).untip (tipOf_untip _ _) rfl (by unfold execOp; rw [hop]; simp [asBool, hcb])
    · exact fin (a.eval x') (by simp) (by simp) (by simp) (opdB_ok s b2).untip (tipOf_untip _ _) rfl (by unfold execOp; rw [hop]; simp [asBool, hcb])
  -- alloc
  · simp only [Bool.and_eq_true, decide_eq_true_eq] at hb
    exact mk (by simp) (by simp) (by simp) (by unfold execOp; rw [hop]) (op_alloc s _ hb.1.1 ⟨hb.1.2, agOr hb.2⟩ he)
  -- allocH
  · simp only [Bool.and_eq_true, decide_eq_true_eq] at hb
    exact mk (by simp) (by simp) (by simp) (by unfold execOp; rw [hop]) (op_allocH s _ hb.1.1.1 ⟨hb.1.1.2, agOr hb.1.2⟩ he)
  -- box
  · simp only [Bool.and_eq_true, decide_eq_true_eq] at hb
    exact mk (by simp) (by simp) (by simp) (by unfold execOp; rw [hop]) (op_box s _ hb.1.1 ⟨hb.1.2, agOr hb.2⟩ he)
  -- build
  · simp only [Bool.and_eq_true] at hb
    exact val (by simp) (by simp) (by simp) (by unfold execOp; rw [hop]) (op_build s hb.1 hb.2 he)
  -- buildSl
  · split at hb
    · rename_i e hu
      simp only [Bool.and_eq_true, decide_eq_true_eq, beq_iff_eq] at hb
      obtain ⟨⟨⟨⟨⟨⟨⟨c1, c2⟩, c3⟩, c4⟩, c5⟩, c6⟩, c7⟩, c8⟩ := hb
      subst c3
      exact mk (by simp) (by simp) (by simp) (by unfold execOp; rw [hop]) (op_buildSl s _ c7 hu c1 c2 c4 ⟨c5, agOr c6⟩ c8 he)
    · cases hb
  -- buildZ
  · simp only [Bool.and_eq_true, beq_iff_eq] at hb
    obtain ⟨⟨b1, rfl⟩, b3⟩ := hb
    rename_i ops
    have : ops = #[] := by apply Array.ext'; simpa using b3
    subst this
    split at b1
    · rename_i e hu
      obtain ⟨i, hi⟩ := Option.isSome_iff_exists.1 b1
      exact mk (by simp) (by simp) (by simp) (by unfold execOp; rw [hop]) (op_buildZ s _ hu hi he)
    · cases b1
  -- load
  · simp only [Bool.and_eq_true] at hb
    obtain ⟨y, r1, r2, r3, r4⟩ := op_load hC.g s hb.1 hb.2 he
    exact val (by simp) (by simp) (by simp) (by unfold execOp; rw [hop]) ⟨⟨y, r1, r2, r3⟩, r4⟩
  -- loadD
  · simp only [Bool.and_eq_true] at hb
    obtain ⟨y, r1, r2, r3, r4⟩ := op_loadD hC.g s hb.1 hb.2 he
    exact val (by simp) (by simp) (by simp) (by unfold execOp; rw [hop]) ⟨⟨y, r1, r2, r3⟩, r4⟩
  -- store
  · simp only [Bool.and_eq_true] at hb
    obtain ⟨⟨c1, c2⟩, c3⟩ := hb
    split at c1
    · rename_i i hi
      rw [putRes_plain (by simp) (by simp) (by simp)]
      exact carries_skip (by unfold execOp; rw [hop]) (op_store s o.dst ⟨i, hi, by simpa using c1⟩ c2 c3 he)
    · cases c1
  -- loadT
  · simp only [Bool.and_eq_true] at hb
    obtain ⟨⟨b1, b2⟩, b3⟩ := hb
    rw [putRes_plain (by simp) (by simp) (by simp)]
    exact carries_value (by unfold execOp; rw [hop]) (op_loadT s o.dst b3 b1 b2 he)
  -- storeT
  · simp only [Bool.and_eq_true, beq_iff_eq] at hb
    obtain ⟨⟨⟨b1, b2⟩, b3⟩, b4⟩ := hb
    rename_i p n t x' m
    have e2 : putRes ⟨o.dst, grd, .storeT p n⟩ v sl = sl.set n (sl.getD n .any).untip := by
      unfold putRes
      rw [Option.isNone_iff_eq_none.1 b4]
    rw [e2]
    subst b3
    split at b1
    · rename_i i hi
      exact carries_skip (by unfold execOp; rw [hop]) (by rw [Option.isNone_iff_eq_none.1 b4]; exact op_storeT s none ⟨i, hi, by simpa using b1⟩ b2 he)
    · cases b1
  -- nilchk
  · rename_i x x'
    have hx := opdB_ok s hb
    simp only [evOp] at he
    generalize POpd.get sl x = u at hx he
    cases u <;> simp only [Option.some.injEq, Prod.mk.injEq, reduceCtorEq] at he
    case ref b off =>
      obtain ⟨rfl, rfl⟩ := he
      obtain ⟨r, e, hr⟩ := hx.refs
      exact fin _ (by simp) (by simp) (by simp) (.ref hr) rfl rfl (by unfold execOp; rw [hop]; simp only [e]; rfl)
    case eref cs off =>
      obtain ⟨rfl, rfl⟩ := he
      obtain ⟨xs, k, o', e, h1, h2, h3⟩ := hx.erefs
      exact fin _ (by simp) (by simp) (by simp) (.c (.eref h1 h2 h3)) rfl rfl (by unfold execOp; rw [hop]; simp only [e]; rfl)
    case gptr g off =>
      obtain ⟨rfl, rfl⟩ := he
      have e := hx.gptrs
      exact fin _ (by simp) (by simp) (by simp) (.c (.gptr _ _)) rfl rfl (by unfold execOp; rw [hop]; simp only [e]; rfl)
    case fn f x1 x2 =>
      obtain ⟨rfl, rfl⟩ := he
      obtain ⟨xs, ys, e, h1, h2⟩ := hx.fns
      exact fin _ (by simp) (by simp) (by simp) (.fn _ h1 h2) rfl rfl (by unfold execOp; rw [hop]; simp only [e]; rfl)
  -- bin
  · simp only [Bool.and_eq_true, decide_eq_true_eq] at hb
    obtain ⟨⟨rfl, b2⟩, b3⟩ := hb
    simp only [evOp, Option.map_eq_some_iff, Prod.mk.injEq] at he
    obtain ⟨v0, hv0, rfl, rfl⟩ := he
    exact val (by simp) (by simp) (by simp) (by unfold execOp; rw [hop]) ⟨evBin_ok (opdB_ok s b2) (opdB_ok s b3) hv0, rfl⟩
  -- eqv
  · simp only [Bool.and_eq_true, decide_eq_true_eq] at hb
    obtain ⟨⟨⟨rfl, b1⟩, b2⟩, b3⟩ := hb
    simp only [evOp, Option.map_eq_some_iff, Prod.mk.injEq] at he
    obtain ⟨v0, hv0, rfl, rfl⟩ := he
    exact val (by simp) (by simp) (by simp) (by unfold execOp; rw [hop]) ⟨evEq_ok b1 (opdB_ok s b2) (opdB_ok s b3) hv0, rfl⟩
  -- un
  · simp only [Bool.and_eq_true, decide_eq_true_eq] at hb
    obtain ⟨rfl, b2⟩ := hb
    simp only [evOp, Option.map_eq_some_iff, Prod.mk.injEq] at he
    obtain ⟨v0, hv0, rfl, rfl⟩ := he
    exact val (by simp) (by simp) (by simp) (by unfold execOp; rw [hop]) ⟨evUn_ok (opdB_ok s b2) hv0, rfl⟩
  -- conv strBytes
  · simp only [Bool.and_eq_true] at hb
    obtain ⟨⟨b1, b2⟩, b3⟩ := hb
    split at b3
    · rename_i e h1 h2
      split at b3
      · rename_i h3
        exact mk (by simp) (by simp) (by simp) (by unfold execOp; rw [hop]) (op_strBytes s _ b2 h1 h2 h3 b1 he)
      · cases b3
    · cases b3
  -- conv
  · simp only [Bool.and_eq_true] at hb
    simp only [evOp, Option.map_eq_some_iff, Prod.mk.injEq] at he
    obtain ⟨v0, hv0, rfl, rfl⟩ := he
    exact val (by simp) (by simp) (by simp) (by unfold execOp; rw [hop]) ⟨evConv_ok s hb.1 (opdB_ok s hb.2) hv0, rfl⟩
  -- mkif
  · simp only [Bool.and_eq_true, beq_iff_eq] at hb
    obtain ⟨⟨rfl, b2⟩, b3⟩ := hb
    simp only [evOp] at he
    split at he
    · rename_i hcl
      simp only [Option.some.injEq, Prod.mk.injEq] at he
      obtain ⟨rfl, rfl⟩ := he
      refine val (by simp) (by simp) (by simp) (by unfold execOp; rw [hop]) ⟨⟨.iface _ (a.eval _), ?_, .c (.iface _ ((opdB_ok s b2).closedN 4 hcl)), rfl⟩, rfl⟩
      split at b3
      · cases b3
      · rename_i d hne hu
        simp only [Instr.makeInterface, Sem.run_bind, run_underlying P hu, Result.andThen_ok]
        cases d <;> first | rfl | exact absurd rfl (hne _)
      · cases b3
    · cases he
  -- mkfn
  · simp only [Bool.and_eq_true, beq_iff_eq] at hb
    obtain ⟨⟨rfl, b2⟩, b3⟩ := hb
    simp only [evOp, Option.some.injEq, Prod.mk.injEq] at he
    obtain ⟨rfl, rfl⟩ := he
    rename_i f first caps first' caps'
    have v1 := (opdsB_ok s b2).untip
    have v2 := (opdsB_ok s b3).untip
    rw [List.map_map] at v1 v2
    refine val (m := Instr.makeFunc (.func f) (first'.map a.eval) (caps'.map a.eval)) (by simp) (by simp) (by simp) (by unfold execOp; rw [hop]) ⟨⟨_, rfl, ?_, rfl⟩, rfl⟩
    have e1 : first'.map a.eval = ⟨first'.toList.map a.eval⟩ := by apply Array.ext'; simp
    have e2 : caps'.map a.eval = ⟨caps'.toList.map a.eval⟩ := by apply Array.ext'; simp
    rw [e1, e2]
    exact .fn _ v1 v2
  -- mksl
  · split at hb
    · rename_i e hu
      simp only [Bool.and_eq_true, decide_eq_true_eq, beq_iff_eq] at hb
      obtain ⟨⟨⟨⟨⟨⟨⟨c1, c2⟩, c3⟩, c4⟩, c5⟩, c6⟩, c7⟩, c8⟩ := hb
      split at c1
      · rename_i i hi
        exact mk (by simp) (by simp) (by simp) (by unfold execOp; rw [hop]) (op_mksl s _ c6 hu hi c2 c3 (by simpa using c1) ⟨c4, agOr c5⟩ c7 c8 he)
      · cases c1
    · cases hb
  -- slstr
  · simp only [Bool.and_eq_true] at hb
    obtain ⟨⟨⟨⟨b1, b2⟩, b3⟩, b4⟩, b5⟩ := hb
    rename_i mx
    split at b1
    · rename_i hu
      cases mx with
      | some m => cases b5
      | none => exact val (by simp) (by simp) (by simp) (by unfold execOp; rw [hop]; rfl) (op_slstr s hu b2 b3 b4 he)
    · cases b1
  -- slsl
  · simp only [Bool.and_eq_true] at hb
    obtain ⟨⟨⟨⟨⟨b1, b2⟩, b3⟩, b4⟩, b5⟩, b6⟩ := hb
    obtain ⟨e, i, hu, hi, hsz, hpos⟩ := slB_ok b1
    refine val (by simp) (by simp) (by simp) (by unfold execOp; rw [hop]) (op_slsl s hu ⟨i, hi, hsz⟩ b2 b3 b4 b5 ?_ he)
    intro hm
    simp only [Bool.or_eq_true] at b6
    rcases b6 with b6 | b6
    · rename_i mx _ _ _ _ _; cases mx <;> simp_all
    · exact b6
  -- slz
  · simp only [Bool.and_eq_true] at hb
    obtain ⟨⟨⟨⟨b1, b2⟩, b3⟩, b4⟩, b5⟩ := hb
    obtain ⟨e, i, hu, hi, hsz, hpos⟩ := slB_ok b1
    rename_i lo' _ _
    cases lo' with
    | some _ => cases b3
    | none => exact val (by simp) (by simp) (by simp) (by unfold execOp; rw [hop]; rfl) (op_slz s hu ⟨i, hi, hsz⟩ b2 b4 b5 he)
  -- slarr
  · simp only [Bool.and_eq_true] at hb
    obtain ⟨⟨⟨⟨⟨b1, b2⟩, b3⟩, b4⟩, b5⟩, b6⟩ := hb
    refine val (by simp) (by simp) (by simp) (by unfold execOp; rw [hop]) (op_slarr s b1 b2 b3 b4 b5 ?_ he)
    intro hm
    simp only [Bool.or_eq_true] at b6
    rcases b6 with b6 | b6
    · rename_i mx _ _ _ _ _; cases mx <;> simp_all
    · exact b6
  -- faddr
  · simp only [Bool.and_eq_true] at hb
    obtain ⟨b1, b2⟩ := hb
    split at b1
    · rename_i fs hu
      split at b1
      · rename_i fd hf
        split at b1
        · rename_i d i hd hi
          exact val (by simp) (by simp) (by simp) (by unfold execOp; rw [hop]) (op_faddr s b1 b2 he)
        · cases b1
      · cases b1
    · cases b1
  -- field
  · simp only [Bool.and_eq_true] at hb
    exact val (by simp) (by simp) (by simp) (by unfold execOp; rw [hop]) (op_field s hb.1 hb.2 he)
  -- iarr
  · simp only [Bool.and_eq_true] at hb
    exact val (by simp) (by simp) (by simp) (by unfold execOp; rw [hop]) (op_iarr s hb.1.1 hb.1.2 hb.2 he)
  -- isl
  · simp only [Bool.and_eq_true] at hb
    exact val (by simp) (by simp) (by simp) (by unfold execOp; rw [hop]) (op_isl s hb.1.1 hb.1.2 hb.2 he)
  -- ixarr
  · simp only [Bool.and_eq_true] at hb
    obtain ⟨⟨⟨b1, b2⟩, b3⟩, b4⟩ := hb
    obtain ⟨e, i, hu, hi, hsz, h1, hpos⟩ := arrB_ok b1
    rw [hu] at b2
    exact val (by simp) (by simp) (by simp) (by unfold execOp; rw [hop]) (op_ixarr s b1 ⟨e, hu, b2⟩ b3 b4 he)
  -- ixstr
  · simp only [Bool.and_eq_true] at hb
    obtain ⟨⟨b1, b2⟩, b3⟩ := hb
    split at b1
    · rename_i hu
      exact val (by simp) (by simp) (by simp) (by unfold execOp; rw [hop]) (op_ixstr s hu b2 b3 he)
    · cases b1
  -- ext
  · simp only [Bool.and_eq_true, beq_iff_eq] at hb
    obtain ⟨rfl, b2⟩ := hb
    exact val (by simp) (by simp) (by simp) (by unfold execOp; rw [hop]) (op_ext s b2 he)
  -- len
  · rename_i c
    split at hb
    · rename_i t x' h1 h2 h3'
      have h3 : c.args = #[x'] := by apply Array.ext'; simpa using h3'
      simp only [Bool.and_eq_true] at hb
      obtain ⟨hg, hh⟩ := op_len (ty := o.type) s h2 hb.1 hb.2 he
      obtain ⟨y, r1, r2, r3⟩ := hg
      refine fin y (by simp) (by simp) (by simp) r2 r3 hh ?_
      unfold execOp
      rw [hop]
      simp only [Sem.run_bind, resolve, h1, h3, Sem.run_pure, Result.andThen_ok, invoke, builtin]
      simp only [List.map_toArray, List.map_cons, List.map_nil, Sem.run_bind, r1, Result.andThen_ok, Sem.run_pure]
    · cases hb
  -- max
  · rename_i c
    split at hb
    · rename_i h1
      simp only [Bool.and_eq_true, decide_eq_true_eq] at hb
      obtain ⟨hg, hh⟩ := op_max (P := P) (ts := c.argTypes) (ty := o.type) s hb.1 hb.2 he
      obtain ⟨y, r1, r2, r3⟩ := hg
      refine fin y (by simp) (by simp) (by simp) r2 r3 hh ?_
      unfold execOp
      rw [hop]
      have e2 : c.args.map a.eval = (c.args.toList.map a.eval).toArray := by apply Array.ext'; simp
      simp only [Sem.run_bind, resolve, h1, Sem.run_pure, Result.andThen_ok, invoke, builtin, e2, r1]
    · cases hb
  -- min
  · rename_i c
    split at hb
    · rename_i h1
      simp only [Bool.and_eq_true, decide_eq_true_eq] at hb
      obtain ⟨hg, hh⟩ := op_min (P := P) (ts := c.argTypes) (ty := o.type) s hb.1 hb.2 he
      obtain ⟨y, r1, r2, r3⟩ := hg
      refine fin y (by simp) (by simp) (by simp) r2 r3 hh ?_
      unfold execOp
      rw [hop]
      have e2 : c.args.map a.eval = (c.args.toList.map a.eval).toArray := by apply Array.ext'; simp
      simp only [Sem.run_bind, resolve, h1, Sem.run_pure, Result.andThen_ok, invoke, builtin, e2, r1]
    · cases hb
  -- app
  · rename_i esz x y c
    split at hb
    · rename_i x' y' h1 h2'
      have h2 : c.args = #[x', y'] := by apply Array.ext'; simpa using h2'
      simp only [Bool.and_eq_true] at hb
      obtain ⟨⟨⟨b1, b2⟩, b3⟩, b4⟩ := hb
      obtain ⟨d, hd⟩ := Option.isSome_iff_exists.1 b4
      obtain ⟨z, w', r1, r2⟩ := op_app (ty := o.type) s d b1 b2 b3 he
      have e1 : (execOp a.eval o).run P w = .ok (.value z) w' := by
        unfold execOp
        rw [hop]
        simp only [Sem.run_bind, resolve, h1, h2, Sem.run_pure, Result.andThen_ok, invoke, builtin]
        simp only [List.map_toArray, List.map_cons, List.map_nil, Sem.run_bind, r1, Result.andThen_ok, Sem.run_pure]
      have e2 : putRes ⟨o.dst, grd, .app esz x y⟩ v sl = (srcUntip x sl).set d v := by
        rw [hd]
        unfold putRes srcUntip
        cases x <;> rfl
      rw [e2]
      intro K Q hk
      simp only [Oper.wp, e1, Oper.upon]
      exact hk z w' (by rw [hd]; exact r2)
    · cases hb
  -- appo
  · rename_i esz ag x y c
    split at hb
    · rename_i x' y' h1 h2'
      have h2 : c.args = #[x', y'] := by apply Array.ext'; simpa using h2'
      simp only [Bool.and_eq_true] at hb
      obtain ⟨⟨⟨b1, b2⟩, b3⟩, b4⟩ := hb
      obtain ⟨z, w', r1, r2⟩ := op_appo (ty := o.type) s o.dst b1 (agOr b4) b2 b3 he
      have e1 : (execOp a.eval o).run P w = .ok (.value z) w' := by
        unfold execOp
        rw [hop]
        simp only [Sem.run_bind, resolve, h1, h2, Sem.run_pure, Result.andThen_ok, invoke, builtin]
        simp only [List.map_toArray, List.map_cons, List.map_nil, Sem.run_bind, r1, Result.andThen_ok, Sem.run_pure]
      rw [putRes_plain (by simp) (by simp) (by simp)]
      intro K Q hk
      simp only [Oper.wp, e1, Oper.upon]
      exact hk z w' r2
    · cases hb
  -- calls
  · rename_i g xs c
    split at hb
    · rename_i g' h1
      simp only [Bool.and_eq_true, beq_iff_eq] at hb
      obtain ⟨rfl, b2⟩ := hb
      rw [putRes_plain (by simp) (by simp) (by simp)]
      obtain ⟨hc, us, hus⟩ := op_callq (a := a) s hC.q o.dst b2 he
      refine carries_call ?_ hc
      have := exec_call (w := w) (a := a) (fs := []) (cs := []) hop h1 rfl (hC.qb _ _ _ hus)
      simpa using this
    · cases hb
  · rename_i g xs c
    split at hb
    · rename_i g' h1
      simp only [Bool.and_eq_true, beq_iff_eq] at hb
      obtain ⟨rfl, b2⟩ := hb
      rw [putRes_plain (by simp) (by simp) (by simp)]
      obtain ⟨hc, us, hus⟩ := op_callqs (a := a) s hC.q o.dst b2 he
      refine carries_call ?_ hc
      have := exec_call (w := w) (a := a) (fs := []) (cs := []) hop h1 rfl (hC.qb _ _ _ hus)
      simpa using this
    · cases hb
  · rename_i g xs c
    split at hb
    · rename_i g' h1
      simp only [Bool.and_eq_true, beq_iff_eq] at hb
      obtain ⟨rfl, b2⟩ := hb
      rw [putRes_plain (by simp) (by simp) (by simp)]
      have hc := op_callm (a := a) s hC.m o.dst b2 he
      refine carries_call ?_ hc
      have := exec_call (w := w) (a := a) (fs := []) (cs := []) hop h1 rfl (hC.mb _ _ _ _ he)
      simpa using this
    · cases hb
  · rename_i g xs c
    split at hb
    · rename_i g' h1
      simp only [Bool.and_eq_true, beq_iff_eq] at hb
      obtain ⟨rfl, b2⟩ := hb
      rw [putRes_plain (by simp) (by simp) (by simp)]
      have hc := op_callk (a := a) s hC.k o.dst b2 he
      refine carries_call ?_ hc
      have := exec_call (w := w) (a := a) (fs := []) (cs := []) hop h1 rfl (hC.kb _ _ _ _ he)
      simpa using this
    · cases hb
  · rename_i f xs c
    split at hb
    · rename_i f' h1
      simp only [Bool.and_eq_true] at hb
      rw [putRes_plain (by simp) (by simp) (by simp)]
      obtain ⟨g, us, fs, cs, e1, e2, hc⟩ := op_callv (a := a) s hC.m o.dst hb.1 hb.2 he
      exact carries_call (exec_call hop h1 e1 (hC.mb _ _ _ _ e2)) hc
    · cases hb
  · cases hb

end Go.Proofs.YteaopgkajbfkeaaGreatDoor
namespace Go.Proofs.YteaopgkajbfkeaaGreatDoor
open Go

variable {C : Env} {b0 : Nat}

def POpd.slots : POpd → List Nat
  | .s n => [n]
  | _ => []

def optSlots : Option POpd → List Nat
  | some p => p.slots
  | none => []

/-- The slots that an operation reads. -/
def POp.slots : POp → List Nat
  | .mv x => x.slots
  | .tk n => [n]
  | .pick c a b => c.slots ++ a.slots ++ b.slots
  | .alloc .. => []
  | .allocH d _ _ _ => [d]
  | .buildZ _ => []
  | .loadD q _ _ x => q :: x.slots
  | .box _ _ _ x => x.slots
  | .build _ ps => ps.flatMap fun p => p.2.2.slots
  | .buildSl _ _ _ _ _ ps => ps.flatMap fun p => p.2.slots
  | .load _ _ x => x.slots
  | .store _ x y => x.slots ++ y.slots
  | .loadT x => x.slots
  | .storeT x n => n :: x.slots
  | .nilchk x => x.slots
  | .bin _ x y => x.slots ++ y.slots
  | .eqv _ _ x y => x.slots ++ y.slots
  | .un _ x => x.slots
  | .conv _ x => x.slots
  | .mkif _ x => x.slots
  | .mkfn _ xs ys => xs.flatMap POpd.slots ++ ys.flatMap POpd.slots
  | .mksl _ _ _ _ x y => x.slots ++ y.slots
  | .slstr x lo hi => x.slots ++ optSlots lo ++ optSlots hi
  | .slsl _ x lo hi mx => x.slots ++ optSlots lo ++ optSlots hi ++ optSlots mx
  | .slz _ x => x.slots
  | .slarr _ _ x lo hi mx => x.slots ++ optSlots lo ++ optSlots hi ++ optSlots mx
  | .faddr _ x => x.slots
  | .field _ _ _ x => x.slots
  | .iarr _ _ x i => x.slots ++ i.slots
  | .isl _ x i => x.slots ++ i.slots
  | .ixarr _ _ _ x i => x.slots ++ i.slots
  | .ixstr x i => x.slots ++ i.slots
  | .ext x _ => x.slots
  | .len _ x => x.slots
  | .lenc _ => []
  | .max xs => xs.flatMap POpd.slots
  | .min xs => xs.flatMap POpd.slots
  | .app _ x y => x.slots ++ y.slots
  | .appo _ _ x y => x.slots ++ y.slots
  | .callq _ xs => xs.flatMap POpd.slots
  | .callqs _ xs => xs.flatMap POpd.slots
  | .callm _ xs => xs.flatMap POpd.slots
  | .callk _ xs => xs.flatMap POpd.slots
  | .callv f xs => f.slots ++ xs.flatMap POpd.slots
  | .bad => []

theorem get_congr {sl sl' : List AV} {p : POpd} (h : ∀ n ∈ p.slots, sl'.getD n .any = sl.getD n .any) : p.get sl' = p.get sl := by
  cases p <;> first | rfl | exact h _ (by simp [POpd.slots])

theorem map_congr_get {sl sl' : List AV} {β : Type} (f : AV → β) {ps : List POpd} (h : ∀ n ∈ ps.flatMap POpd.slots, sl'.getD n .any = sl.getD n .any) : ps.map (fun x => f (POpd.get sl' x)) = ps.map (fun x => f (POpd.get sl x)) := by
  apply List.map_congr_left
  intro p hp
  rw [get_congr (fun n hn => h n (List.mem_flatMap.2 ⟨p, hp, hn⟩))]

theorem bounds_congr {sl sl' : List AV} {len cap : Nat} {lo hi mx : Option POpd} (h : ∀ n ∈ optSlots lo ++ optSlots hi ++ optSlots mx, sl'.getD n .any = sl.getD n .any) : bounds sl' len cap lo hi mx = bounds sl len cap lo hi mx := by
  have g : ∀ o : Option POpd, (∀ n ∈ optSlots o, sl'.getD n .any = sl.getD n .any) → ∀ x, o = some x → x.get sl' = x.get sl := by
    intro o ho x hx
    subst hx
    exact get_congr ho
  unfold bounds
  have h1 := g lo (fun n hn => h n (by simp [hn]))
  have h2 := g hi (fun n hn => h n (by simp [hn]))
  have h3 := g mx (fun n hn => h n (by simp [hn]))
  cases lo <;> cases hi <;> cases mx <;> simp_all

theorem fillParts_congr {sl sl' : List AV} : ∀ {ps : List (Nat × Nat × POpd)} {cs : List AV}, (∀ n ∈ ps.flatMap (fun p => p.2.2.slots), sl'.getD n .any = sl.getD n .any) → fillParts sl' ps cs = fillParts sl ps cs
  | [], cs, _ => rfl
  | (off, sz, p) :: ps, cs, h => by
    simp only [fillParts]
    rw [get_congr (p := p) (fun n hn => h n (by simp [hn]))]
    cases (POpd.get sl p).cellsOf with
    | none => rfl
    | some v =>
      simp only
      rw [fillParts_congr (fun n hn => h n (by simp at hn ⊢; exact .inr hn))]

theorem evOp_congr {sl sl' : List AV} (op : POp) (h : Store) (hs : ∀ n ∈ op.slots, sl'.getD n .any = sl.getD n .any) : evOp C b0 op sl' h = evOp C b0 op sl h := by
  cases op with
  | buildSl own esz ag len zero ps =>
    simp only [evOp]
    rw [fillParts_congr (fun n hn => hs n (by
      simp only [POp.slots, List.mem_flatMap, List.mem_map] at hn ⊢
      obtain ⟨q, ⟨p, hp, rfl⟩, hn⟩ := hn
      exact ⟨p, hp, hn⟩))]
  | build zero ps => simp only [evOp]; rw [fillParts_congr hs]
  | mkfn f xs ys =>
    simp only [evOp, POp.slots, List.mem_append] at hs ⊢
    rw [map_congr_get AV.untip (fun n hn => hs n (.inl hn)), map_congr_get AV.untip (fun n hn => hs n (.inr hn))]
  | max xs =>
    simp only [evOp]
    have := map_congr_get (fun v => v) (ps := xs) hs
    rw [show xs.map (POpd.get sl') = xs.map (POpd.get sl) from this]
  | min xs =>
    simp only [evOp]
    have := map_congr_get (fun v => v) (ps := xs) hs
    rw [show xs.map (POpd.get sl') = xs.map (POpd.get sl) from this]
  | callq g xs =>
    simp only [evOp]
    have e1 : xs.mapM (fun x => freeze h (POpd.get sl' x)) = xs.mapM (fun x => freeze h (POpd.get sl x)) := by
      have := map_congr_get (fun v => v) (ps := xs) hs
      have : (xs.map (POpd.get sl')).mapM (freeze h) = (xs.map (POpd.get sl)).mapM (freeze h) := by rw [show xs.map (POpd.get sl') = xs.map (POpd.get sl) from this]
      rwa [List.mapM_map, List.mapM_map] at this
    have e2 : xs.flatMap (fun x => reachN h 8 (POpd.get sl' x)) = xs.flatMap (fun x => reachN h 8 (POpd.get sl x)) := by
      have := map_congr_get (fun v => reachN h 8 v) (ps := xs) hs
      rw [List.flatMap_def, List.flatMap_def, this]
    rw [e1, e2]
  | callqs g xs =>
    simp only [evOp]
    have e1 : xs.mapM (fun x => freeze h (POpd.get sl' x)) = xs.mapM (fun x => freeze h (POpd.get sl x)) := by
      have := map_congr_get (fun v => v) (ps := xs) hs
      have : (xs.map (POpd.get sl')).mapM (freeze h) = (xs.map (POpd.get sl)).mapM (freeze h) := by rw [show xs.map (POpd.get sl') = xs.map (POpd.get sl) from this]
      rwa [List.mapM_map, List.mapM_map] at this
    have e2 : xs.flatMap (fun x => reachN h 8 (POpd.get sl' x)) = xs.flatMap (fun x => reachN h 8 (POpd.get sl x)) := by
      have := map_congr_get (fun v => reachN h 8 v) (ps := xs) hs
      rw [List.flatMap_def, List.flatMap_def, this]
    rw [e1, e2]
  | callm g xs => simp only [evOp]; rw [map_congr_get AV.untip hs]
  | callk g xs => simp only [evOp]; rw [map_congr_get AV.untip hs]
  | callv f xs =>
    simp only [POp.slots, List.mem_append] at hs
    simp only [evOp]
    rw [get_congr (fun n hn => hs n (.inl hn)), map_congr_get AV.untip (fun n hn => hs n (.inr hn))]
  | slstr x lo hi =>
    simp only [POp.slots, List.mem_append] at hs
    simp only [evOp]
    rw [get_congr (p := x) (fun n hn => hs n (.inl (.inl hn)))]
    have hb : ∀ l c, bounds sl' l c lo hi none = bounds sl l c lo hi none := fun l c => bounds_congr (fun n hn => hs n (by simp [optSlots] at hn; rcases hn with hn | hn; exact .inl (.inr hn); exact .inr hn))
    simp only [hb]
  | slsl esz x lo hi mx =>
    simp only [POp.slots, List.mem_append] at hs
    simp only [evOp]
    rw [get_congr (p := x) (fun n hn => hs n (.inl (.inl (.inl hn))))]
    have hb : ∀ l c, bounds sl' l c lo hi mx = bounds sl l c lo hi mx := fun l c => bounds_congr (fun n hn => hs n (by simp at hn; rcases hn with hn | hn | hn; exact .inl (.inl (.inr hn)); exact .inl (.inr hn); exact .inr hn))
    simp only [hb]
  | slarr m esz x lo hi mx =>
    simp only [POp.slots, List.mem_append] at hs
    simp only [evOp]
    rw [get_congr (p := x) (fun n hn => hs n (.inl (.inl (.inl hn))))]
    have hb : ∀ l c, bounds sl' l c lo hi mx = bounds sl l c lo hi mx := fun l c => bounds_congr (fun n hn => hs n (by simp at hn; rcases hn with hn | hn | hn; exact .inl (.inl (.inr hn)); exact .inl (.inr hn); exact .inr hn))
    simp only [hb]
  | tk n => simp only [evOp]; rw [hs n (by simp [POp.slots])]
  | alloc => rfl
  | allocH d => simp only [evOp]; rw [hs d (by simp [POp.slots])]
  | loadD q _ _ x => simp only [POp.slots, List.mem_cons] at hs; simp only [evOp]; rw [hs q (.inl rfl), get_congr (p := x) (fun n hn => hs n (.inr hn))]
  | lenc => rfl
  | buildZ => rfl
  | bad => rfl
  | mv x => simp only [evOp]; rw [get_congr (p := x) hs]
  | slz _ x => simp only [evOp]; rw [get_congr (p := x) hs]
  | loadT x => simp only [evOp]; rw [get_congr (p := x) hs]
  | storeT x n => simp only [POp.slots, List.mem_cons] at hs; simp only [evOp]; rw [hs n (.inl rfl), get_congr (p := x) (fun k hk => hs k (.inr hk))]
  | pick c x y =>
    simp only [POp.slots, List.mem_append] at hs
    simp only [evOp]
    rw [get_congr (p := c) (fun n hn => hs n (.inl (.inl hn))), get_congr (p := x) (fun n hn => hs n (.inl (.inr hn))), get_congr (p := y) (fun n hn => hs n (.inr hn))]
  | box _ _ _ x => simp only [evOp]; rw [get_congr (p := x) hs]
  | load _ _ x => simp only [evOp]; rw [get_congr (p := x) hs]
  | nilchk x => simp only [evOp]; rw [get_congr (p := x) hs]
  | un _ x => simp only [evOp]; rw [get_congr (p := x) hs]
  | conv _ x => simp only [evOp]; rw [get_congr (p := x) hs]
  | mkif _ x => simp only [evOp]; rw [get_congr (p := x) hs]
  | faddr _ x => simp only [evOp]; rw [get_congr (p := x) hs]
  | field _ _ _ x => simp only [evOp]; rw [get_congr (p := x) hs]
  | ext x _ => simp only [evOp]; rw [get_congr (p := x) hs]
  | len _ x => simp only [evOp]; rw [get_congr (p := x) hs]
  | store _ x y => simp only [POp.slots, List.mem_append] at hs; simp only [evOp]; rw [get_congr (p := x) (fun n hn => hs n (.inl hn)), get_congr (p := y) (fun n hn => hs n (.inr hn))]
  | bin _ x y => simp only [POp.slots, List.mem_append] at hs; simp only [evOp]; rw [get_congr (p := x) (fun n hn => hs n (.inl hn)), get_congr (p := y) (fun n hn => hs n (.inr hn))]
  | eqv _ _ x y => simp only [POp.slots, List.mem_append] at hs; simp only [evOp]; rw [get_congr (p := x) (fun n hn => hs n (.inl hn)), get_congr (p := y) (fun n hn => hs n (.inr hn))]
  | mksl _ _ _ _ x y => simp only [POp.slots, List.mem_append] at hs; simp only [evOp]; rw [get_congr (p := x) (fun n hn => hs n (.inl hn)), get_congr (p := y) (fun n hn => hs n (.inr hn))]
  | iarr _ _ x y => simp only [POp.slots, List.mem_append] at hs; simp only [evOp]; rw [get_congr (p := x) (fun n hn => hs n (.inl hn)), get_congr (p := y) (fun n hn => hs n (.inr hn))]
  | isl _ x y => simp only [POp.slots, List.mem_append] at hs; simp only [evOp]; rw [get_congr (p := x) (fun n hn => hs n (.inl hn)), get_congr (p := y) (fun n hn => hs n (.inr hn))]
  | ixarr _ _ _ x y => simp only [POp.slots, List.mem_append] at hs; simp only [evOp]; rw [get_congr (p := x) (fun n hn => hs n (.inl hn)), get_congr (p := y) (fun n hn => hs n (.inr hn))]
  | ixstr x y => simp only [POp.slots, List.mem_append] at hs; simp only [evOp]; rw [get_congr (p := x) (fun n hn => hs n (.inl hn)), get_congr (p := y) (fun n hn => hs n (.inr hn))]
  | appo _ _ x y => simp only [POp.slots, List.mem_append] at hs; simp only [evOp]; rw [get_congr (p := x) (fun n hn => hs n (.inl hn)), get_congr (p := y) (fun n hn => hs n (.inr hn))]
  | app _ x y => simp only [POp.slots, List.mem_append] at hs; simp only [evOp]; rw [get_congr (p := x) (fun n hn => hs n (.inl hn)), get_congr (p := y) (fun n hn => hs n (.inr hn))]

inductive MK where
  | N | R | A | H | W
  deriving DecidableEq

/-- What an operation does with the blocks: nothing; it looks; it makes one; whatever else. -/
def POp.mk : POp → MK
  | .alloc .. => .A
  | .allocH .. => .H
  | .loadD .. => .R
  | .box .. => .A
  | .buildSl own .. => if own then .A else .N
  | .mksl own .. => if own then .A else .N
  | .load .. => .R
  | .conv .bytesStr _ => .R
  | .slsl .. => .R
  | .slz .. => .R
  | .slarr .. => .R
  | .isl .. => .R
  | .app .. => .R
  | .callq .. => .R
  | .store .. => .W
  | .loadT .. => .W
  | .storeT .. => .W
  | .appo .. => .W
  | .callqs .. => .W
  | .callm .. => .W
  | .callk .. => .W
  | .callv .. => .W
  | _ => .N

theorem mapM_some_congr {f g : AV → Option AV} (hfg : ∀ x y, f x = some y → g x = some y) : ∀ {l l' : List AV}, l.mapM f = some l' → l.mapM g = some l'
  | [], l', h => by simpa using h
  | x :: l, l', h => by
    rw [List.mapM_cons] at h ⊢
    simp only [bind, Option.bind_eq_some_iff, pure, Option.some.injEq] at h ⊢
    obtain ⟨y, hy, l2, h2, rfl⟩ := h
    exact ⟨y, hfg x y hy, l2, mapM_some_congr hfg h2, rfl⟩

/-- What is in memory stays as it is. -/
def Le (h h2 : Store) : Prop := ∀ b blk, getB h b = some blk → getB h2 b = some blk

theorem Le.app (h : Store) (x : Blk) : Le h (h ++ [x]) := by
  intro b blk hb
  obtain ⟨h1, h2⟩ := getB_some hb
  have hlt := (List.getElem?_eq_some_iff.1 h1).1
  unfold getB
  rw [List.getElem?_append_left hlt, h1]
  simp [h2]

theorem Le.fill {h : Store} {n : Nat} {blk x : Blk} (hn : h[n]? = some blk) (hz : blk.esz = 0) : Le h (h.set n x) := by
  intro b blk' hb
  obtain ⟨h1, h2⟩ := getB_some hb
  have hne : n ≠ b := fun e => by subst e; rw [hn] at h1; cases h1; exact h2 hz
  unfold getB
  rw [List.getElem?_set_ne hne, h1]
  simp [h2]

theorem freeze_app (h : Store) {h2 : Store} (x : Le h h2) : ∀ (d : Nat) (v u : AV), freezeN h d v = some u → freezeN h2 d v = some u
  | 0, v, u, hf => by simp [freezeN] at hf
  | d + 1, v, u, hf => by
    have L : ∀ {l l' : List AV}, l.mapM (freezeN h d) = some l' → l.mapM (freezeN h2 d) = some l' := fun hl => mapM_some_congr (freeze_app h x d) hl
    cases v <;> simp only [freezeN, Option.some.injEq, reduceCtorEq] at hf ⊢ <;> try exact hf
    case osl b off len cap =>
      cases hb : getB h b with
      | none => rw [hb] at hf; cases hf
      | some blk =>
        rw [hb] at hf
        rw [x _ _ hb]
        simp only at hf ⊢
        split at hf
        · rename_i hc
          rw [if_pos hc]
          simp only [Option.map_eq_some_iff] at hf ⊢
          obtain ⟨cs, hcs, rfl⟩ := hf
          exact ⟨cs, L hcs, rfl⟩
        · cases hf
    case agg cs =>
      simp only [Option.map_eq_some_iff] at hf ⊢
      obtain ⟨us, hus, rfl⟩ := hf
      exact ⟨us, L hus, rfl⟩
    case tup cs =>
      simp only [Option.map_eq_some_iff] at hf ⊢
      obtain ⟨us, hus, rfl⟩ := hf
      exact ⟨us, L hus, rfl⟩
    case fn f y z =>
      simp only [Option.bind_eq_some_iff, Option.map_eq_some_iff] at hf ⊢
      obtain ⟨us, hus, us', hus', rfl⟩ := hf
      exact ⟨us, L hus, us', L hus', rfl⟩
    case iface t v =>
      simp only [Option.map_eq_some_iff] at hf ⊢
      obtain ⟨us, hus, rfl⟩ := hf
      exact ⟨us, freeze_app h x d _ _ hus, rfl⟩

theorem mapM_mem {f : AV → Option AV} : ∀ {l l' : List AV}, l.mapM f = some l' → ∀ x ∈ l, ∃ y, f x = some y
  | [], _, _, x, hx => by cases hx
  | z :: l, l', h, x, hx => by
    rw [List.mapM_cons] at h
    simp only [bind, Option.bind_eq_some_iff, pure, Option.some.injEq] at h
    obtain ⟨y, hy, l2, h2, rfl⟩ := h
    rcases List.mem_cons.1 hx with rfl | hx
    · exact ⟨y, hy⟩
    · exact mapM_mem h2 x hx

theorem reach_app (h : Store) {h2 : Store} (x : Le h h2) : ∀ (d : Nat) (v u : AV), freezeN h d v = some u → (reachN h2 d v = [] ↔ reachN h d v = [])
  | 0, v, u, hf => by simp [freezeN] at hf
  | d + 1, v, u, hf => by
    have L : ∀ {l l' : List AV}, l.mapM (freezeN h d) = some l' → (l.flatMap (reachN h2 d) = [] ↔ l.flatMap (reachN h d) = []) := by
      intro l l' hl
      simp only [List.flatMap_eq_nil_iff]
      constructor
      · intro hh y hy
        obtain ⟨z, hz⟩ := mapM_mem hl y hy
        exact (reach_app h x d y z hz).1 (hh y hy)
      · intro hh y hy
        obtain ⟨z, hz⟩ := mapM_mem hl y hy
        exact (reach_app h x d y z hz).2 (hh y hy)
    cases v <;> simp only [freezeN, Option.some.injEq, reduceCtorEq] at hf <;> simp only [reachN, reduceCtorEq]
    case agg cs =>
      simp only [Option.map_eq_some_iff] at hf
      obtain ⟨us, hus, rfl⟩ := hf
      exact L hus
    case tup cs =>
      simp only [Option.map_eq_some_iff] at hf
      obtain ⟨us, hus, rfl⟩ := hf
      exact L hus
    case fn f y z =>
      simp only [Option.bind_eq_some_iff, Option.map_eq_some_iff] at hf
      obtain ⟨us, hus, us', hus', rfl⟩ := hf
      rw [List.append_eq_nil_iff, List.append_eq_nil_iff, L hus, L hus']
    case iface t v =>
      simp only [Option.map_eq_some_iff] at hf
      obtain ⟨us, hus, rfl⟩ := hf
      exact reach_app h x d _ _ hus

theorem elems_app {h h2 : Store} (x : Le h h2) {v : AV} {vs : List AV} {esz : Nat} (hz : eszIs h esz v = true) (he : elems h v = some vs) : eszIs h2 esz v = true ∧ elems h2 v = some vs := by
  cases v <;> simp only [elems, eszIs] at hz he ⊢ <;> try exact ⟨hz, he⟩
  rename_i b off len cap
  cases hb : getB h b with
  | none => rw [hb] at he; cases he
  | some blk =>
    rw [hb] at he hz
    rw [x _ _ hb]
    exact ⟨hz, he⟩

theorem news_app {h h2 : Store} (x : Le h h2) {v : AV} {vs : List AV} {esz : Nat} (he : news h esz v = some vs) : news h2 esz v = some vs := by
  have gen : (if eszIs h esz v then elems h v else none) = some vs → (if eszIs h2 esz v then elems h2 v else none) = some vs := by
    intro he
    split at he
    · rename_i hz
      obtain ⟨h1, h2⟩ := elems_app x hz he
      rw [if_pos h1]; exact h2
    · cases he
  cases v <;> simp only [news] at he ⊢ <;> first | exact gen he | exact he

/-- An operation that at most looks at the blocks. -/
theorem evOp_R {op : POp} {sl : List AV} {h h' : Store} {v : AV} (hm : op.mk = .R) (he : evOp C b0 op sl h = some (v, h')) : h' = h ∧ ∀ h2, Le h h2 → evOp C b0 op sl h2 = some (v, h2) := by
  cases op <;> simp only [POp.mk, reduceCtorEq] at hm
  case buildSl own _ _ _ _ _ => cases own <;> simp at hm
  case mksl own _ _ _ _ _ => cases own <;> simp at hm
  case load ag sz p =>
    simp only [evOp] at he ⊢
    cases hp : POpd.get sl p <;> rw [hp] at he <;> simp only [reduceCtorEq] at he
    case ref b off =>
      cases hb : getB h b with
      | none => rw [hb] at he; cases he
      | some blk =>
        rw [hb] at he
        simp only [Option.map_eq_some_iff, Prod.mk.injEq] at he
        obtain ⟨v0, hv0, rfl, rfl⟩ := he
        exact ⟨rfl, fun h2 x => by simp only [x _ _ hb, hv0, Option.map_some]⟩
    case eref cs off =>
      simp only [Option.map_eq_some_iff, Prod.mk.injEq] at he
      obtain ⟨v0, hv0, rfl, rfl⟩ := he
      exact ⟨rfl, fun h2 x => by simp only [hv0, Option.map_some]⟩
    case gptr g off =>
      cases hg : C.g g with
      | none => rw [hg] at he; cases he
      | some cs =>
        rw [hg] at he
        simp only [Option.map_eq_some_iff, Prod.mk.injEq] at he
        obtain ⟨v0, hv0, rfl, rfl⟩ := he
        exact ⟨rfl, fun h2 x => by simp only [hg, hv0, Option.map_some]⟩
  case loadD q ag sz p =>
    simp only [evOp] at he ⊢
    split at he
    · split at he
      · cases he
      · rename_i b' o' b off h1 h2 hne
        cases hb : getB h b with
        | none => rw [hb] at he; cases he
        | some blk =>
          rw [hb] at he
          simp only [Option.map_eq_some_iff, Prod.mk.injEq] at he
          obtain ⟨v0, hv0, rfl, rfl⟩ := he
          exact ⟨rfl, fun h2 x => by simp only [if_neg hne, x _ _ hb, hv0, Option.map_some]⟩
    · cases he
  case conv c p =>
    cases c <;> simp only [POp.mk, reduceCtorEq] at hm
    simp only [evOp, Option.map_eq_some_iff, Prod.mk.injEq] at he ⊢
    obtain ⟨v0, hv0, rfl, rfl⟩ := he
    refine ⟨rfl, fun h2 x => ?_⟩
    have hv0' : (if eszIs h 1 (POpd.get sl p) = true then Option.map AV.str ((elems h (POpd.get sl p)).bind bytesOf) else none) = some v0 := by
      generalize POpd.get sl p = u at hv0
      cases u <;> exact hv0
    have goal : (if eszIs h2 1 (POpd.get sl p) = true then Option.map AV.str ((elems h2 (POpd.get sl p)).bind bytesOf) else none) = some v0 := by
      split at hv0'
      · rename_i hz
        simp only [Option.map_eq_some_iff, Option.bind_eq_some_iff] at hv0' ⊢
        obtain ⟨l, ⟨vs, hvs, hl⟩, rfl⟩ := hv0'
        obtain ⟨h1, h2⟩ := elems_app x hz hvs
        rw [if_pos h1]
        simp only [h2, Option.bind_some, hl, Option.map_some]
      · cases hv0'
    refine ⟨v0, ?_, rfl, trivial⟩
    generalize POpd.get sl p = u at goal
    cases u <;> exact goal
  case slsl esz p lo hi mx =>
    simp only [evOp] at he ⊢
    cases hp : POpd.get sl p <;> rw [hp] at he <;> simp only [reduceCtorEq] at he
    case nils =>
      simp only [Option.map_eq_some_iff, Prod.mk.injEq] at he
      obtain ⟨v0, hv0, rfl, rfl⟩ := he
      exact ⟨rfl, fun h2 x => by simp only [hv0, Option.map_some]⟩
    case sl e vs =>
      split at he
      · rename_i hc
        simp only [Option.map_eq_some_iff, Prod.mk.injEq] at he
        obtain ⟨⟨l, n, m⟩, hv0, rfl, rfl⟩ := he
        exact ⟨rfl, fun h2 x => by simp only [hc, if_true, hv0, Option.map_some]⟩
      · cases he
    case gsl e vs =>
      split at he
      · rename_i hc
        simp only [Option.map_eq_some_iff, Prod.mk.injEq] at he
        obtain ⟨⟨l, n, m⟩, hv0, rfl, rfl⟩ := he
        exact ⟨rfl, fun h2 x => by simp only [hc, if_true, hv0, Option.map_some]⟩
      · cases he
    case osl b off len cap =>
      cases hb : getB h b with
      | none => rw [hb] at he; cases he
      | some blk =>
        rw [hb] at he
        simp only at he
        split at he
        · rename_i hc
          simp only [Option.map_eq_some_iff, Prod.mk.injEq] at he
          obtain ⟨⟨l, n, m⟩, hv0, rfl, rfl⟩ := he
          exact ⟨rfl, fun h2 x => by simp only [x _ _ hb, hc, if_true, hv0, Option.map_some]⟩
        · cases he
  case slz esz p =>
    simp only [evOp] at he ⊢
    cases hp : POpd.get sl p <;> rw [hp] at he <;> simp only [reduceCtorEq] at he
    case nils => cases he; exact ⟨rfl, fun h2 x => rfl⟩
    case sl e vs => split at he <;> cases he; rename_i hc; exact ⟨rfl, fun h2 x => by simp only [hc, if_true]⟩
    case gsl e vs => split at he <;> cases he; rename_i hc; exact ⟨rfl, fun h2 x => by simp only [hc, if_true]⟩
    case osl b off len cap =>
      cases hb : getB h b with
      | none => rw [hb] at he; cases he
      | some blk =>
        rw [hb] at he
        simp only at he
        split at he <;> cases he
        rename_i hc
        exact ⟨rfl, fun h2 x => by simp only [x _ _ hb, hc, if_true]⟩
  case slarr n esz p lo hi mx =>
    simp only [evOp] at he ⊢
    cases hp : POpd.get sl p <;> rw [hp] at he <;> simp only [reduceCtorEq] at he
    case ref b off =>
      cases hb : getB h b with
      | none => rw [hb] at he; cases he
      | some blk =>
        rw [hb] at he
        simp only at he
        split at he
        · rename_i hc
          simp only [Option.map_eq_some_iff, Prod.mk.injEq] at he
          obtain ⟨⟨l, n, m⟩, hv0, rfl, rfl⟩ := he
          exact ⟨rfl, fun h2 x => by simp only [x _ _ hb, hv0, Option.map_some]; rw [if_pos hc]⟩
        · cases he
  case isl esz p q =>
    simp only [evOp] at he ⊢
    cases hj : asIdx (POpd.get sl q) with
    | none => rw [hj] at he; cases he
    | some j =>
      rw [hj] at he
      simp only at he ⊢
      cases hp : POpd.get sl p <;> rw [hp] at he <;> simp only [reduceCtorEq] at he
      case sl e vs =>
        split at he
        · rename_i hc
          simp only [Option.map_eq_some_iff, Prod.mk.injEq] at he
          obtain ⟨v0, hv0, rfl, rfl⟩ := he
          exact ⟨rfl, fun h2 x => by simp only [hc, if_true, hv0, Option.map_some]⟩
        · cases he
      case gsl e vs =>
        split at he
        · rename_i hc
          simp only [Option.map_eq_some_iff, Prod.mk.injEq] at he
          obtain ⟨v0, hv0, rfl, rfl⟩ := he
          exact ⟨rfl, fun h2 x => by simp only [hc, if_true, hv0, Option.map_some]⟩
        · cases he
      case osl b off len cap =>
        cases hb : getB h b with
        | none => rw [hb] at he; cases he
        | some blk =>
          rw [hb] at he
          simp only at he
          split at he
          · rename_i hc
            cases he
            exact ⟨rfl, fun h2 x => by simp only [x _ _ hb]; rw [if_pos hc]⟩
          · cases he
  case app esz p q =>
    simp only [evOp] at he ⊢
    cases hn : news h esz (POpd.get sl q) with
    | none => rw [hn] at he; cases he
    | some ws =>
      rw [hn] at he
      simp only at he
      split at he
      · rename_i hc
        cases hp : POpd.get sl p <;> rw [hp] at he <;> simp only [reduceCtorEq] at he
        case nils =>
          split at he
          · rename_i hl
            cases he
            exact ⟨rfl, fun h2 x => by simp only [news_app x hn, hc, if_true]; rw [if_pos hl]⟩
          · cases he
        case gsl e vs =>
          split at he
          · rename_i hl
            cases he
            exact ⟨rfl, fun h2 x => by simp only [news_app x hn, hc, if_true]; rw [if_pos hl]⟩
          · cases he
      · cases he
  case callq g ps =>
    simp only [evOp, Option.bind_eq_some_iff] at he ⊢
    obtain ⟨us, hus, v0, hv0, he⟩ := he
    split at he
    · rename_i hc
      cases he
      refine ⟨rfl, fun h2 x => ⟨us, ?_, v, hv0, ?_⟩⟩
      · have : (ps.map (POpd.get sl)).mapM (freeze h2) = some us := mapM_some_congr (freeze_app h x 8) (by rw [List.mapM_map]; exact hus)
        rwa [List.mapM_map] at this
      · have hus' : (ps.map (POpd.get sl)).mapM (freeze h) = some us := by rw [List.mapM_map]; exact hus
        have : (ps.flatMap fun x_1 => reachN h2 8 (POpd.get sl x_1)).isEmpty = (ps.flatMap fun x => reachN h 8 (POpd.get sl x)).isEmpty := by
          rw [Bool.eq_iff_iff, List.isEmpty_iff, List.isEmpty_iff]
          simp only [List.flatMap_eq_nil_iff]
          constructor
          · intro hh y hy
            obtain ⟨z, hz⟩ := mapM_mem hus' (POpd.get sl y) (List.mem_map.2 ⟨y, hy, rfl⟩)
            exact (reach_app h x 8 _ z hz).1 (hh y hy)
          · intro hh y hy
            obtain ⟨z, hz⟩ := mapM_mem hus' (POpd.get sl y) (List.mem_map.2 ⟨y, hy, rfl⟩)
            exact (reach_app h x 8 _ z hz).2 (hh y hy)
        rw [this, if_pos hc]
    · cases he

end Go.Proofs.YteaopgkajbfkeaaGreatDoor
namespace Go.Proofs.YteaopgkajbfkeaaGreatDoor
open Go

variable {C : Env} {b0 : Nat}

theorem conv_N {h h2 : Store} {c : PConv} {x : AV} (hc : c ≠ .bytesStr) : evConv h c x = evConv h2 c x := by
  cases c <;> first | exact absurd rfl hc | (cases x <;> rfl)

theorem evOp_N {op : POp} {sl : List AV} {h h' : Store} {v : AV} (hm : op.mk = .N) (he : evOp C b0 op sl h = some (v, h')) : h' = h ∧ ∀ h2, evOp C b0 op sl h2 = some (v, h2) := by
  cases op <;> simp only [POp.mk, reduceCtorEq] at hm
  case bad => simp only [evOp, reduceCtorEq] at he
  case mv p => simp only [evOp, Option.some.injEq, Prod.mk.injEq] at he ⊢; exact ⟨he.2.symm, fun _ => ⟨he.1, trivial⟩⟩
  case tk n => simp only [evOp, Option.some.injEq, Prod.mk.injEq] at he ⊢; exact ⟨he.2.symm, fun _ => ⟨he.1, trivial⟩⟩
  case buildZ n => simp only [evOp, Option.some.injEq, Prod.mk.injEq] at he ⊢; exact ⟨he.2.symm, fun _ => ⟨he.1, trivial⟩⟩
  case lenc n => simp only [evOp, Option.some.injEq, Prod.mk.injEq] at he ⊢; exact ⟨he.2.symm, fun _ => ⟨he.1, trivial⟩⟩
  case mkfn f a b => simp only [evOp, Option.some.injEq, Prod.mk.injEq] at he ⊢; exact ⟨he.2.symm, fun _ => ⟨he.1, trivial⟩⟩
  case pick c p q =>
    simp only [evOp] at he ⊢
    split at he <;> first | (cases he; done) | skip
    · rename_i hq; cases he; exact ⟨rfl, fun _ => rfl⟩
    · rename_i hq; cases he; exact ⟨rfl, fun _ => rfl⟩
  case build z ps =>
    simp only [evOp, Option.map_eq_some_iff, Prod.mk.injEq] at he ⊢
    obtain ⟨cs, hcs, rfl, rfl⟩ := he
    exact ⟨rfl, fun _ => ⟨cs, hcs, rfl, trivial⟩⟩
  case buildSl own esz ag len z ps =>
    cases own with
    | true => simp at hm
    | false =>
      simp only [evOp, Option.bind_eq_some_iff, Bool.false_eq_true, if_false] at he ⊢
      obtain ⟨cs, hcs, he⟩ := he
      split at he
      · rename_i hc
        cases he
        exact ⟨rfl, fun _ => ⟨cs, hcs, by rw [if_pos hc]⟩⟩
      · cases he
  case nilchk p =>
    simp only [evOp] at he ⊢
    split at he <;> first | (cases he; done) | (cases he; exact ⟨rfl, fun _ => rfl⟩)
  case bin op p q =>
    simp only [evOp, Option.map_eq_some_iff, Prod.mk.injEq] at he ⊢
    obtain ⟨cs, hcs, rfl, rfl⟩ := he
    exact ⟨rfl, fun _ => ⟨cs, hcs, rfl, trivial⟩⟩
  case eqv ng k p q =>
    simp only [evOp, Option.map_eq_some_iff, Prod.mk.injEq] at he ⊢
    obtain ⟨cs, hcs, rfl, rfl⟩ := he
    exact ⟨rfl, fun _ => ⟨cs, hcs, rfl, trivial⟩⟩
  case un op p =>
    simp only [evOp, Option.map_eq_some_iff, Prod.mk.injEq] at he ⊢
    obtain ⟨cs, hcs, rfl, rfl⟩ := he
    exact ⟨rfl, fun _ => ⟨cs, hcs, rfl, trivial⟩⟩
  case conv c p =>
    simp only [evOp, Option.map_eq_some_iff, Prod.mk.injEq] at he ⊢
    obtain ⟨cs, hcs, rfl, rfl⟩ := he
    have hc : c ≠ .bytesStr := by intro e; subst e; simp at hm
    exact ⟨rfl, fun h2 => ⟨cs, by rw [← hcs]; exact conv_N hc, rfl, trivial⟩⟩
  case mkif t p =>
    simp only [evOp] at he ⊢
    split at he
    · rename_i hc; cases he; exact ⟨rfl, fun _ => by rw [if_pos hc]⟩
    · cases he
  case mksl own esz ag z p q =>
    cases own with
    | true => simp at hm
    | false =>
      simp only [evOp, Bool.false_eq_true, if_false] at he ⊢
      split at he
      · rename_i l c hl hc
        split at he
        · rename_i hcond
          cases he
          exact ⟨rfl, fun _ => by rw [if_pos hcond]⟩
        · cases he
      · cases he
  case slstr p lo hi =>
    simp only [evOp] at he ⊢
    split at he
    · simp only [Option.map_eq_some_iff, Prod.mk.injEq] at he ⊢
      obtain ⟨⟨l, n, m⟩, hv0, rfl, rfl⟩ := he
      exact ⟨rfl, fun _ => ⟨(l, n, m), hv0, rfl, trivial⟩⟩
    · cases he
  case faddr off p =>
    simp only [evOp] at he ⊢
    split at he <;> first | (cases he; done) | (cases he; exact ⟨rfl, fun _ => rfl⟩)
  case field ag off sz p =>
    simp only [evOp] at he ⊢
    split at he
    · simp only [Option.map_eq_some_iff, Prod.mk.injEq] at he ⊢
      obtain ⟨v0, hv0, rfl, rfl⟩ := he
      exact ⟨rfl, fun _ => ⟨v0, hv0, rfl, trivial⟩⟩
    · cases he
  case iarr n esz p q =>
    simp only [evOp] at he ⊢
    split at he
    · split at he
      · rename_i hc
        simp only [hc, if_true]
        split at he <;> first | (cases he; done) | (cases he; exact ⟨rfl, fun _ => rfl⟩)
      · cases he
    · cases he
  case ixarr n esz ag p q =>
    simp only [evOp] at he ⊢
    split at he
    · split at he
      · rename_i hc
        simp only [hc, if_true]
        simp only [Option.map_eq_some_iff, Prod.mk.injEq] at he ⊢
        obtain ⟨v0, hv0, rfl, rfl⟩ := he
        exact ⟨rfl, fun _ => ⟨v0, hv0, rfl, trivial⟩⟩
      · cases he
    · cases he
  case ixstr p q =>
    simp only [evOp] at he ⊢
    split at he
    · simp only [Option.map_eq_some_iff, Prod.mk.injEq] at he ⊢
      obtain ⟨v0, hv0, rfl, rfl⟩ := he
      exact ⟨rfl, fun _ => ⟨v0, hv0, rfl, trivial⟩⟩
    · cases he
  case ext p i =>
    simp only [evOp] at he ⊢
    split at he
    · simp only [Option.map_eq_some_iff, Prod.mk.injEq] at he ⊢
      obtain ⟨v0, hv0, rfl, rfl⟩ := he
      exact ⟨rfl, fun _ => ⟨v0, hv0, rfl, trivial⟩⟩
    · cases he
  case len str p =>
    simp only [evOp] at he ⊢
    split at he <;> first | (cases he; done) | (cases he; exact ⟨rfl, fun _ => rfl⟩)
  case max ps =>
    simp only [evOp] at he ⊢
    split at he
    · simp only [Option.map_eq_some_iff, Prod.mk.injEq] at he ⊢
      obtain ⟨v0, hv0, rfl, rfl⟩ := he
      exact ⟨rfl, fun _ => ⟨v0, hv0, rfl, trivial⟩⟩
    · cases he
  case min ps =>
    simp only [evOp] at he ⊢
    split at he
    · simp only [Option.map_eq_some_iff, Prod.mk.injEq] at he ⊢
      obtain ⟨v0, hv0, rfl, rfl⟩ := he
      exact ⟨rfl, fun _ => ⟨v0, hv0, rfl, trivial⟩⟩
    · cases he

/-- A block that was announced. -/
theorem evOp_H {op : POp} {sl : List AV} {h h' : Store} {v : AV} (hm : op.mk = .H) (he : evOp C b0 op sl h = some (v, h')) :
    ∃ n blk b', h[n]? = some blk ∧ blk.esz = 0 ∧ b'.esz ≠ 0 ∧ h' = h.set n b' ∧ ∀ h2 blk2, h2[n]? = some blk2 → blk2.esz = 0 → evOp C b0 op sl h2 = some (v, h2.set n b') := by
  cases op <;> simp only [POp.mk, reduceCtorEq] at hm
  case buildSl own _ _ _ _ _ => cases own <;> simp at hm
  case mksl own _ _ _ _ _ => cases own <;> simp at hm
  case conv c p => cases c <;> simp [POp.mk] at hm
  case allocH d esz ag zero =>
    simp only [evOp] at he ⊢
    split at he
    · rename_i n hn
      split at he
      · rename_i blk hb
        split at he
        · rename_i hc
          cases he
          refine ⟨n, blk, _, hb, hc.1, hc.2.2, rfl, fun h2 blk2 hb2 hz => ?_⟩
          simp only [hb2]
          rw [if_pos ⟨hz, hc.2⟩]
        · cases he
      · cases he
    · cases he

/-- A load that looks elsewhere than where is written. -/
theorem evOp_D {q : Nat} {ag : Bool} {sz : Nat} {x : POpd} {sl : List AV} {h h' : Store} {v : AV} (he : evOp C b0 (.loadD q ag sz x) sl h = some (v, h')) :
    h' = h ∧ ∀ h2, (∀ b o, sl.getD q .any = .ref b o → ∀ b2, b2 ≠ b → getB h2 b2 = getB h b2) → evOp C b0 (.loadD q ag sz x) sl h2 = some (v, h2) := by
  simp only [evOp] at he ⊢
  split at he
  · rename_i b' o' b off h1 h2
    split at he
    · cases he
    · rename_i hne
      cases hb : getB h b with
      | none => rw [hb] at he; cases he
      | some blk =>
        rw [hb] at he
        simp only [Option.map_eq_some_iff, Prod.mk.injEq] at he
        obtain ⟨v0, hv0, rfl, rfl⟩ := he
        exact ⟨rfl, fun h3 hh => by simp only [if_neg hne, hh b' o' h1 b (fun e => hne e.symm), hb, hv0, Option.map_some]⟩
  · cases he

theorem evOp_St {q : Nat} {sz : Nat} {y : POpd} {sl : List AV} {h h' : Store} {v : AV} (he : evOp C b0 (.store sz (.s q) y) sl h = some (v, h')) :
    ∃ b o, sl.getD q .any = .ref b o ∧ ∀ b2, b2 ≠ b → getB h' b2 = getB h b2 := by
  simp only [evOp] at he
  generalize POpd.get sl y = u at he
  rw [show POpd.get sl (.s q) = sl.getD q .any from rfl] at he
  split at he
  · rename_i b off hb
    split at he
    · split at he
      · cases he
        refine ⟨b, off, hb, fun b2 h2 => ?_⟩
        unfold getB
        rw [List.getElem?_set_ne (Ne.symm h2)]
      · cases he
    · cases he
  · cases he

theorem evOp_A {op : POp} {sl : List AV} {h h' : Store} {v : AV} (hm : op.mk = .A) (he : evOp C b0 op sl h = some (v, h')) : ∃ x, h' = h ++ [x] := by
  cases op <;> simp only [POp.mk, reduceCtorEq] at hm
  case conv c p => cases c <;> simp [POp.mk] at hm
  case alloc => simp only [evOp, Option.some.injEq, Prod.mk.injEq] at he; exact ⟨_, he.2.symm⟩
  case box esz ag sz p =>
    simp only [evOp] at he
    split at he
    · split at he
      · cases he; exact ⟨_, rfl⟩
      · cases he
    · cases he
  case buildSl own esz ag len z ps =>
    cases own with
    | false => simp at hm
    | true =>
      simp only [evOp, Option.bind_eq_some_iff, if_true] at he
      obtain ⟨cs, hcs, he⟩ := he
      cases he
      exact ⟨_, rfl⟩
  case mksl own esz ag z p q =>
    cases own with
    | false => simp at hm
    | true =>
      simp only [evOp, if_true] at he
      split at he
      · split at he
        · cases he; exact ⟨_, rfl⟩
        · cases he
      · cases he

def PRow.src (r : PRow) : List Nat := match r.op with | .tk n => [n] | .app _ (.s n) _ => [n] | .storeT _ n => [n] | _ => []
def PRow.rd (r : PRow) : List Nat := r.op.slots ++ (match r.grd with | some (j, _) => [j] | none => [])
def PRow.wr (r : PRow) : List Nat := r.src ++ r.dst.toList

def applyW (W : List (Nat × AV)) (sl : List AV) : List AV := W.foldl (fun s p => s.set p.1 p.2) sl

theorem getD_applyW : ∀ (W : List (Nat × AV)) (sl : List AV) (n : Nat), (∀ p ∈ W, p.1 ≠ n) → (applyW W sl).getD n .any = sl.getD n .any
  | [], _, _, _ => rfl
  | p :: W, sl, n, h => by
    show (applyW W (sl.set p.1 p.2)).getD n .any = _
    rw [getD_applyW W _ n (fun q hq => h q (List.mem_cons_of_mem _ hq))]
    simp only [List.getD_eq_getElem?_getD]
    rw [List.getElem?_set_ne (h p List.mem_cons_self)]

theorem applyW_set : ∀ (W : List (Nat × AV)) (sl : List AV) (n : Nat) (v : AV), (∀ p ∈ W, p.1 ≠ n) → applyW W (sl.set n v) = (applyW W sl).set n v
  | [], _, _, _, _ => rfl
  | p :: W, sl, n, v, h => by
    show applyW W ((sl.set n v).set p.1 p.2) = (applyW W (sl.set p.1 p.2)).set n v
    rw [List.set_comm _ _ (Ne.symm (h p List.mem_cons_self)), applyW_set W _ n v (fun q hq => h q (List.mem_cons_of_mem _ hq))]

theorem applyW_comm : ∀ (W W' : List (Nat × AV)) (sl : List AV), (∀ p ∈ W, ∀ q ∈ W', p.1 ≠ q.1) → applyW W' (applyW W sl) = applyW W (applyW W' sl)
  | [], _, _, _ => rfl
  | p :: W, W', sl, h => by
    show applyW W' (applyW W (sl.set p.1 p.2)) = applyW W ((applyW W' sl).set p.1 p.2)
    rw [applyW_comm W W' _ (fun a ha b hb => h a (List.mem_cons_of_mem _ ha) b hb), applyW_set W' sl p.1 p.2 (fun q hq => (h p List.mem_cons_self q hq).symm)]

/-- What a row writes. -/
def PRow.writes (r : PRow) (v : AV) (sl : List AV) : List (Nat × AV) :=
  (r.src.map fun n => (n, (sl.getD n .any).untip)) ++ (r.dst.toList.map fun d => (d, v))

theorem putRes_writes (r : PRow) (v : AV) (sl : List AV) : putRes r v sl = applyW (r.writes v sl) sl := by
  obtain ⟨dst, grd, op⟩ := r
  unfold putRes PRow.writes PRow.src
  cases dst <;> cases op <;> first | rfl | skip
  all_goals (rename_i p q; cases p <;> rfl)

theorem src_slots (r : PRow) : ∀ n ∈ r.src, n ∈ r.op.slots := by
  obtain ⟨dst, grd, op⟩ := r
  intro n hn
  cases op <;> simp only [PRow.src, List.not_mem_nil] at hn
  · simpa [POp.slots] using hn
  · simp only [List.mem_singleton] at hn; subst hn; simp [POp.slots]
  · rename_i e p q
    cases p <;> simp only [List.not_mem_nil] at hn
    simp [POp.slots, POpd.slots] at hn ⊢
    exact .inl hn

theorem putRes_congr {r : PRow} {v : AV} {sl sl2 : List AV} (ha : ∀ n ∈ r.op.slots, sl2.getD n .any = sl.getD n .any) : putRes r v sl2 = applyW (r.writes v sl) sl2 := by
  rw [putRes_writes]
  congr 1
  unfold PRow.writes
  congr 1
  apply List.map_congr_left
  intro n hn
  rw [ha n (src_slots r n hn)]

/-- A row's effect: some slots are written; on the blocks as its kind says. -/
structure Eff (C : Env) (b0 : Nat) (r : PRow) (sl : List AV) (h : Store) (W : List (Nat × AV)) (h' : Store) : Prop where
  sub : ∀ p ∈ W, p.1 ∈ r.wr
  same : ∀ sl2, (∀ n ∈ r.rd, sl2.getD n .any = sl.getD n .any) → evRow C b0 r (sl2, h) = some (applyW W sl2, h')
  N : r.op.mk = .N → h' = h ∧ ∀ sl2 h2, (∀ n ∈ r.rd, sl2.getD n .any = sl.getD n .any) → evRow C b0 r (sl2, h2) = some (applyW W sl2, h2)
  R : r.op.mk = .R → h' = h ∧ ∀ sl2 h2, Le h h2 → (∀ n ∈ r.rd, sl2.getD n .any = sl.getD n .any) → evRow C b0 r (sl2, h2) = some (applyW W sl2, h2)
  A : r.op.mk = .A ∨ r.op.mk = .H → Le h h'
  H : r.op.mk = .H → (h' = h ∧ ∀ sl2 h2, (∀ n ∈ r.rd, sl2.getD n .any = sl.getD n .any) → evRow C b0 r (sl2, h2) = some (applyW W sl2, h2)) ∨
    ∃ n blk b', h[n]? = some blk ∧ blk.esz = 0 ∧ b'.esz ≠ 0 ∧ h' = h.set n b' ∧ ∀ sl2 h2 blk2, h2[n]? = some blk2 → blk2.esz = 0 → (∀ n ∈ r.rd, sl2.getD n .any = sl.getD n .any) → evRow C b0 r (sl2, h2) = some (applyW W sl2, h2.set n b')

theorem evRow_eff {r : PRow} {sl : List AV} {h : Store} {st' : St} (he : evRow C b0 r (sl, h) = some st') : ∃ W, st' = (applyW W sl, st'.2) ∧ Eff C b0 r sl h W st'.2 := by
  have run : ∀ {st'}, runRow C b0 r (sl, h) = some st' → ∃ W, st' = (applyW W sl, st'.2) ∧ (∀ p ∈ W, p.1 ∈ r.wr) ∧ (∀ sl2, (∀ n ∈ r.op.slots, sl2.getD n .any = sl.getD n .any) → runRow C b0 r (sl2, h) = some (applyW W sl2, st'.2)) ∧
      (r.op.mk = .N → st'.2 = h ∧ ∀ sl2 h2, (∀ n ∈ r.op.slots, sl2.getD n .any = sl.getD n .any) → runRow C b0 r (sl2, h2) = some (applyW W sl2, h2)) ∧
      (r.op.mk = .R → st'.2 = h ∧ ∀ sl2 h2, Le h h2 → (∀ n ∈ r.op.slots, sl2.getD n .any = sl.getD n .any) → runRow C b0 r (sl2, h2) = some (applyW W sl2, h2)) ∧ (r.op.mk = .A ∨ r.op.mk = .H → Le h st'.2) ∧
      (r.op.mk = .H → ∃ n blk b', h[n]? = some blk ∧ blk.esz = 0 ∧ b'.esz ≠ 0 ∧ st'.2 = h.set n b' ∧ ∀ sl2 h2 blk2, h2[n]? = some blk2 → blk2.esz = 0 → (∀ n ∈ r.op.slots, sl2.getD n .any = sl.getD n .any) → runRow C b0 r (sl2, h2) = some (applyW W sl2, h2.set n b')) := by
    intro st' hr
    simp only [runRow, Option.map_eq_some_iff] at hr
    obtain ⟨⟨v, h'⟩, hv, rfl⟩ := hr
    refine ⟨r.writes v sl, by rw [putRes_writes], ?_, ?_, ?_, ?_, ?_, ?_⟩
    · intro p hp
      simp only [PRow.writes, List.mem_append, List.mem_map] at hp
      simp only [PRow.wr, List.mem_append]
      rcases hp with ⟨n, hn, rfl⟩ | ⟨d, hd, rfl⟩
      · exact .inl hn
      · exact .inr hd
    · intro sl2 ha
      simp only [runRow, evOp_congr _ _ ha, hv, Option.map_some, putRes_congr ha]
    · intro hm
      obtain ⟨e, hN⟩ := evOp_N hm hv
      refine ⟨e, fun sl2 h2 ha => ?_⟩
      simp only [runRow, evOp_congr _ _ ha, hN, Option.map_some, putRes_congr ha]
    · intro hm
      obtain ⟨e, hN⟩ := evOp_R hm hv
      refine ⟨e, fun sl2 h2 hl ha => ?_⟩
      simp only [runRow, evOp_congr _ _ ha, hN h2 hl, Option.map_some, putRes_congr ha]
    · intro hm
      rcases hm with hm | hm
      · obtain ⟨x, rfl⟩ := evOp_A hm hv
        exact Le.app h x
      · obtain ⟨n, blk, b', p1, p2, p3, rfl, _⟩ := evOp_H hm hv
        exact Le.fill p1 p2
    · intro hm
      obtain ⟨n, blk, b', p1, p2, p3, e, p4⟩ := evOp_H hm hv
      refine ⟨n, blk, b', p1, p2, p3, e, fun sl2 h2 blk2 q1 q2 ha => ?_⟩
      simp only [runRow, evOp_congr _ _ ha, p4 h2 blk2 q1 q2, Option.map_some, putRes_congr ha]
  have skip : ∃ W, (skipRes r sl, h) = (applyW W sl, h) ∧ (∀ p ∈ W, p.1 ∈ r.wr) ∧ ∀ sl2, skipRes r sl2 = applyW W sl2 := by
    refine ⟨r.dst.toList.map fun d => (d, .tup []), ?_, ?_, ?_⟩
    · unfold skipRes; cases r.dst <;> rfl
    · intro p hp
      simp only [List.mem_map] at hp
      obtain ⟨d, hd, rfl⟩ := hp
      simp [PRow.wr]
      exact .inr (by simpa using hd)
    · intro sl2; unfold skipRes; cases r.dst <;> rfl
  unfold evRow at he
  cases hg : r.grd with
  | none =>
    rw [hg] at he
    obtain ⟨W, e, w1, w2, w3, w4, w5, w6⟩ := run he
    have rd : ∀ n, n ∈ r.op.slots → n ∈ r.rd := fun n hn => by simp [PRow.rd, hn]
    refine ⟨W, e, w1, ?_, ?_, ?_, w5, ?_⟩
    · intro sl2 ha; simp only [evRow, hg]; exact w2 sl2 (fun n hn => ha n (rd n hn))
    · intro hm; exact ⟨(w3 hm).1, fun sl2 h2 ha => by simp only [evRow, hg]; exact (w3 hm).2 sl2 h2 (fun n hn => ha n (rd n hn))⟩
    · intro hm; exact ⟨(w4 hm).1, fun sl2 h2 hl ha => by simp only [evRow, hg]; exact (w4 hm).2 sl2 h2 hl (fun n hn => ha n (rd n hn))⟩
    · intro hm
      obtain ⟨n, blk, b', p1, p2, p3, e, p4⟩ := w6 hm
      exact .inr ⟨n, blk, b', p1, p2, p3, e, fun sl2 h2 blk2 q1 q2 ha => by simp only [evRow, hg]; exact p4 sl2 h2 blk2 q1 q2 (fun n hn => ha n (rd n hn))⟩
  | some jw =>
    obtain ⟨j, want⟩ := jw
    rw [hg] at he
    have rd : ∀ n, n ∈ r.op.slots → n ∈ r.rd := fun n hn => by simp [PRow.rd, hn]
    have rj : j ∈ r.rd := by simp [PRow.rd, hg]
    simp only at he
    have skp : (∀ (sl2 : List AV) (h2 : Store), (∀ n ∈ r.rd, sl2.getD n .any = sl.getD n .any) → evRow C b0 r (sl2, h2) = some (skipRes r sl2, h2)) → st' = (skipRes r sl, h) → ∃ W, st' = (applyW W sl, st'.2) ∧ Eff C b0 r sl h W st'.2 := by
      intro hs e
      obtain ⟨W, e1, w1, w2⟩ := skip
      subst e
      refine ⟨W, e1, w1, ?_, ?_, ?_, fun _ _ _ h => h, fun _ => .inl ⟨rfl, fun sl2 h2 ha => by rw [hs sl2 h2 ha, w2]⟩⟩
      · intro sl2 ha; rw [hs sl2 h ha, w2]
      · intro _; exact ⟨rfl, fun sl2 h2 ha => by rw [hs sl2 h2 ha, w2]⟩
      · intro _; exact ⟨rfl, fun sl2 x _ ha => by rw [hs sl2 _ ha, w2]⟩
    split at he
    · rename_i b hb
      split at he
      · rename_i hbw
        obtain ⟨W, e, w1, w2, w3, w4, w5, w6⟩ := run he
        have ev : ∀ sl2 h2, (∀ n ∈ r.rd, sl2.getD n .any = sl.getD n .any) → evRow C b0 r (sl2, h2) = runRow C b0 r (sl2, h2) := by
          intro sl2 h2 ha
          simp only [evRow, hg, ha j rj, hb, hbw, if_true]
        refine ⟨W, e, w1, ?_, ?_, ?_, w5, ?_⟩
        · intro sl2 ha; rw [ev _ _ ha]; exact w2 sl2 (fun n hn => ha n (rd n hn))
        · intro hm; exact ⟨(w3 hm).1, fun sl2 h2 ha => by rw [ev _ _ ha]; exact (w3 hm).2 sl2 h2 (fun n hn => ha n (rd n hn))⟩
        · intro hm; exact ⟨(w4 hm).1, fun sl2 h2 hl ha => by rw [ev _ _ ha]; exact (w4 hm).2 sl2 h2 hl (fun n hn => ha n (rd n hn))⟩
        · intro hm
          obtain ⟨n, blk, b', p1, p2, p3, e, p4⟩ := w6 hm
          exact .inr ⟨n, blk, b', p1, p2, p3, e, fun sl2 h2 blk2 q1 q2 ha => by rw [ev _ _ ha]; exact p4 sl2 h2 blk2 q1 q2 (fun n hn => ha n (rd n hn))⟩
      · rename_i hbw
        refine skp (fun sl2 h2 ha => ?_) (by cases he; rfl)
        simp only [evRow, hg, ha j rj, hb]
        rw [if_neg hbw]
    · rename_i hb
      refine skp (fun sl2 h2 ha => ?_) (by cases he; rfl)
      simp only [evRow, hg, ha j rj, hb]
    · cases he

def memB : MK → MK → Bool
  | .N, _ => true
  | _, .N => true
  | .R, .R => true
  | .R, .A => true
  | .R, .H => true
  | .H, .H => true
  | _, _ => false

/-- A load that looks elsewhere than where is written. -/
def elseB (r1 r2 : PRow) : Bool :=
  match r1.op, r2.op with
  | .loadD q _ _ _, .store _ (.s q') _ => q == q' && r1.grd.isNone && r2.grd.isNone
  | _, _ => false

/-- The second may come before the first. -/
def commB (r1 r2 : PRow) : Bool :=
  r1.wr.all (fun n => !(r2.rd ++ r2.wr).contains n) && r2.wr.all (fun n => !r1.rd.contains n) && (memB r1.op.mk r2.op.mk || elseB r1 r2)

theorem row_comm {r1 r2 : PRow} {st st1 st2 : St} (hc : commB r1 r2 = true) (h1 : evRow C b0 r1 st = some st1) (h2 : evRow C b0 r2 st1 = some st2) : ∃ s, evRow C b0 r2 st = some s ∧ evRow C b0 r1 s = some st2 := by
  obtain ⟨sl, h⟩ := st
  obtain ⟨W1, e1, E1⟩ := evRow_eff h1
  rw [e1] at h2
  obtain ⟨W2, e2, E2⟩ := evRow_eff h2
  simp only [commB, Bool.and_eq_true, List.all_eq_true, Bool.not_eq_true', List.contains_eq_mem, decide_eq_false_iff_not, List.mem_append, not_or] at hc
  obtain ⟨⟨c1, c2⟩, c3⟩ := hc
  have a2 : ∀ n ∈ r2.rd, sl.getD n .any = (applyW W1 sl).getD n .any := fun n hn => (getD_applyW W1 sl n (fun p hp e => (c1 p.1 (E1.sub p hp)).1 (e ▸ hn))).symm
  have a1 : ∀ n ∈ r1.rd, (applyW W2 sl).getD n .any = sl.getD n .any := fun n hn => getD_applyW W2 sl n (fun p hp e => c2 p.1 (E2.sub p hp) (e ▸ hn))
  have sw : applyW W1 (applyW W2 sl) = applyW W2 (applyW W1 sl) := (applyW_comm W1 W2 sl (fun p hp q hq e => (c1 p.1 (E1.sub p hp)).2 (e ▸ E2.sub q hq))).symm
  rw [e2]
  rw [Bool.or_eq_true] at c3
  rcases c3 with c3 | c3
  case inr =>
    unfold elseB at c3
    split at c3
    · rename_i q ag sz x sz2 q' y o1 o2
      simp only [Bool.and_eq_true, beq_iff_eq, Option.isNone_iff_eq_none] at c3
      obtain ⟨⟨rfl, g1⟩, g2⟩ := c3
      have hs1 : runRow C b0 r1 (sl, h) = some st1 := by unfold evRow at h1; rw [g1] at h1; exact h1
      have hs2 : runRow C b0 r2 (applyW W1 sl, st1.2) = some st2 := by unfold evRow at h2; rw [g2] at h2; exact h2
      simp only [runRow, Option.map_eq_some_iff] at hs1 hs2
      obtain ⟨⟨v1, h1'⟩, hv1, e1'⟩ := hs1
      obtain ⟨⟨v2, h2'⟩, hv2, e2'⟩ := hs2
      rw [o1] at hv1
      rw [o2] at hv2
      obtain ⟨q1, q2⟩ := evOp_D hv1
      obtain ⟨b, o, q3, q4⟩ := evOp_St hv2
      have es1 : st1.2 = h := by rw [← e1']; exact q1
      have es2 : st2.2 = h2' := by rw [← e2']
      have E2s := E2.same sl a2
      rw [es1] at E2s q4
      refine ⟨_, E2s, ?_⟩
      have hq : sl.getD q .any = .ref b o := by rw [← q3]; exact a2 q (by simp [PRow.rd, o2, POp.slots, POpd.slots])
      have run1 := q2 st2.2 (fun b' o' hb' b2 hb2 => by
        rw [hq] at hb'; cases hb'
        rw [es2]; exact q4 b2 hb2)
      have ha1 : ∀ n ∈ r1.op.slots, (applyW W2 sl).getD n .any = sl.getD n .any := fun n hn => a1 n (by simp [PRow.rd, hn])
      rw [← o1] at run1
      have : evRow C b0 r1 (applyW W2 sl, st2.2) = some (applyW (r1.writes v1 sl) (applyW W2 sl), st2.2) := by
        unfold evRow; rw [g1]
        simp only [runRow, evOp_congr _ _ ha1, run1, Option.map_some, putRes_congr ha1]
      rw [this]
      have hw : applyW (r1.writes v1 sl) (applyW W2 sl) = applyW W2 (applyW (r1.writes v1 sl) sl) := by
        refine (applyW_comm _ _ sl (fun p hp q hq e => ?_)).symm
        have hp1 : p.1 ∈ r1.wr := by
          simp only [PRow.writes, List.mem_append, List.mem_map] at hp
          simp only [PRow.wr, List.mem_append]
          rcases hp with ⟨n, hn, rfl⟩ | ⟨d, hd, rfl⟩
          · exact .inl hn
          · exact .inr hd
        exact (c1 p.1 hp1).2 (e ▸ E2.sub q hq)
      rw [hw, ← putRes_writes]
      have : putRes r1 v1 sl = applyW W1 sl := by rw [← e1'] at e1; exact (Prod.mk.inj e1).1
      rw [this]
    · cases c3
  have m1 : r1.op.mk = .N → ∃ s, evRow C b0 r2 (sl, h) = some s ∧ evRow C b0 r1 s = some (applyW W2 (applyW W1 sl), st2.2) := by
    intro hN
    obtain ⟨q1, q2⟩ := E1.N hN
    have E2s := E2.same sl a2
    rw [q1] at E2s
    refine ⟨_, E2s, ?_⟩
    rw [q2 _ _ a1, sw]
  have m2 : r2.op.mk = .N → ∃ s, evRow C b0 r2 (sl, h) = some s ∧ evRow C b0 r1 s = some (applyW W2 (applyW W1 sl), st2.2) := by
    intro hN
    obtain ⟨q1, q2⟩ := E2.N hN
    refine ⟨_, q2 sl h a2, ?_⟩
    rw [E1.same _ a1, sw, q1]
  cases k1 : r1.op.mk with
  | N => exact m1 k1
  | R =>
    obtain ⟨q1, q2⟩ := E1.R k1
    have E2s := E2.same sl a2
    rw [q1] at E2s
    cases k2 : r2.op.mk with
    | N => exact m2 k2
    | R =>
      obtain ⟨p1, _⟩ := E2.R k2
      rw [q1] at p1
      rw [p1] at E2s ⊢
      refine ⟨_, E2s, ?_⟩
      rw [E1.same _ a1, sw, q1]
    | A =>
      refine ⟨_, E2s, ?_⟩
      have := E2.A (.inl k2)
      rw [q1] at this
      rw [q2 _ _ this a1, sw]
    | H =>
      refine ⟨_, E2s, ?_⟩
      have := E2.A (.inr k2)
      rw [q1] at this
      rw [q2 _ _ this a1, sw]
    | W => rw [k1, k2] at c3; cases c3
  | H =>
    cases k2 : r2.op.mk with
    | N => exact m2 k2
    | R => rw [k1, k2] at c3; cases c3
    | A => rw [k1, k2] at c3; cases c3
    | W => rw [k1, k2] at c3; cases c3
    | H =>
      rcases E1.H k1 with ⟨p1, p2⟩ | ⟨n, blk, b', p1, p2, p3, p4, p5⟩
      · have E2s := E2.same sl a2
        rw [p1] at E2s
        exact ⟨_, E2s, by rw [p2 _ _ a1, sw]⟩
      · rcases E2.H k2 with ⟨q1, q2⟩ | ⟨n2, blk2, b2', q1, q2, q3, q4, q5⟩
        · refine ⟨_, q2 sl h a2, ?_⟩
          rw [E1.same _ a1, sw, q1]
        · rw [p4] at q1 q4
          have hlt := (List.getElem?_eq_some_iff.1 p1).1
          have hne : n ≠ n2 := by
            intro e
            subst e
            rw [List.getElem?_set_self hlt] at q1
            cases q1
            exact p3 q2
          rw [List.getElem?_set_ne hne] at q1
          refine ⟨_, q5 sl h blk2 q1 q2 a2, ?_⟩
          rw [p5 _ _ blk (by rw [List.getElem?_set_ne (Ne.symm hne)]; exact p1) p2 a1, sw, q4, List.set_comm _ _ hne]
  | A =>
    cases k2 : r2.op.mk with
    | N => exact m2 k2
    | R => rw [k1, k2] at c3; cases c3
    | A => rw [k1, k2] at c3; cases c3
    | H => rw [k1, k2] at c3; cases c3
    | W => rw [k1, k2] at c3; cases c3
  | W =>
    cases k2 : r2.op.mk with
    | N => exact m2 k2
    | R => rw [k1, k2] at c3; cases c3
    | A => rw [k1, k2] at c3; cases c3
    | H => rw [k1, k2] at c3; cases c3
    | W => rw [k1, k2] at c3; cases c3

end Go.Proofs.YteaopgkajbfkeaaGreatDoor
