/- The laws of layer 1: TermCounts, TermParts, TermScopes. -/
import Derived.Test.YtfelfahgeannaaaF9
set_option linter.unusedSimpArgs false
set_option linter.unusedVariables false
set_option maxRecDepth 100000
namespace Go.Proofs.Ytfelfahgeannaaa
open Go.Proofs
def counts_S (t : Tm) (i : Nat) : St := mk 65 [(1, .lref 1 0), (5, dI (sizes t i)), (6, dI (deps' t i)), (7, dI i)] [(1, cel3 t)] [] []
theorem counts_loop {b : Code} {σ : St} {t : Tm} (hb : b = cf (cf (cs (cf (cs (cs (cs (cs (cs (cs (bodyOf Try.f8))))))))))) (hσ : σ = counts_S t 0) (hs : t.size < room) :
    (lim C).code 8 (.loop b) σ = some (.exit 0, mk 65 [(1, .lref 1 0), (5, dI t.size), (6, dI (deps' t t.args.length)), (7, dI t.args.length), (22, dB false)] [(1, cel3 t)] [] []) := by
  subst hb hσ
  have hr : room = 1099511627776 := rfl
  have hl := len_size t
  refine loop_run (counts_S t) t.args.length ?_ ?_ (by simp)
  · intro i hi
    have hsz := size_arg (arg_mem hi)
    have h1 := sizes_succ hi
    have h2 := sizes_le (t := t) (i := i + 1)
    have h3 := deps_succ hi
    have hw : IntKind.wrap .i64 ((sizes t i : Int) + ((t.arg i).size : Int)) = (sizes t (i + 1) : Int) := by rw [wrap_ok (by omega) (by omega)]; omega
    by_cases h : deps' t i < (t.arg i).depth
    · have h4 : decide (((t.arg i).depth : Int) > (deps' t i : Int)) = true := by simpa using h
      have h5 : deps' t (i + 1) = (t.arg i).depth := by omega
      simp -implicitDefEqProofs (disch := decide +kernel) only [cf, cs, bodyOf, Try.f8, Option.getD_some, go_sem, ↓reduceIte, Nat.reduceSub, Nat.reduceAdd, Nat.reduceMul, Nat.reduceBEq, Nat.reduceLT, Nat.reduceLeDiff, Nat.reduceEqDiff, reduceCtorEq, Int.reduceToNat, Int.reduceLE, Int.reduceLT, Int.reduceBEq, Int.reduceBNe, mCall, counts_S, lt_true hi, arg_get hi, tsize_spec (t.arg i) (by omega), tdepth_spec (t.arg i) (by omega), wrap_succ (n := i) (by omega), hw, h4, h5]
    · have h4 : decide (((t.arg i).depth : Int) > (deps' t i : Int)) = false := by simpa using h
      have h5 : deps' t (i + 1) = deps' t i := by omega
      simp -implicitDefEqProofs (disch := decide +kernel) only [cf, cs, bodyOf, Try.f8, Option.getD_some, go_sem, ↓reduceIte, Nat.reduceSub, Nat.reduceAdd, Nat.reduceMul, Nat.reduceBEq, Nat.reduceLT, Nat.reduceLeDiff, Nat.reduceEqDiff, reduceCtorEq, Int.reduceToNat, Int.reduceLE, Int.reduceLT, Int.reduceBEq, Int.reduceBNe, mCall, counts_S, lt_true hi, arg_get hi, tsize_spec (t.arg i) (by omega), tdepth_spec (t.arg i) (by omega), wrap_succ (n := i) (by omega), hw, h4, h5]
  · simp -implicitDefEqProofs (disch := decide +kernel) only [cf, cs, bodyOf, Try.f8, Option.getD_some, go_sem, ↓reduceIte, Nat.reduceSub, Nat.reduceAdd, Nat.reduceMul, Nat.reduceBEq, Nat.reduceLT, Nat.reduceLeDiff, Nat.reduceEqDiff, reduceCtorEq, Int.reduceToNat, Int.reduceLE, Int.reduceLT, Int.reduceBEq, Int.reduceBNe, mCall, counts_S, lt_false (Nat.le_refl t.args.length), sizes_all]
theorem termCounts_holds (t : Tm) (w : Wf t) (hs : t.size < room) : ∃ h, (lim C).call 8 [dT t] [] = some (.ret (dB true), h) := by
  have hr : room = 1099511627776 := rfl
  refine ⟨[], ?_⟩
  rw [ev_fn 8 Try.f8 _ _ _ rfl Try.func8 rfl Try.ntmps8 rfl]
  cases h1 : lightB t 3000 200
  · simp -implicitDefEqProofs (disch := decide +kernel) only [go_sem, ↓reduceIte, Nat.reduceSub, Nat.reduceAdd, Nat.reduceMul, Nat.reduceBEq, Nat.reduceLT, Nat.reduceLeDiff, Nat.reduceEqDiff, reduceCtorEq, Int.reduceToNat, Int.reduceLE, Int.reduceLT, Int.reduceBEq, Int.reduceBNe, mCall, awake1_spec, light_spec t _ _ hs, h1]
  · skip
    simp -implicitDefEqProofs (disch := decide +kernel) only [go_sem, ↓reduceIte, Nat.reduceSub, Nat.reduceAdd, Nat.reduceMul, Nat.reduceBEq, Nat.reduceLT, Nat.reduceLeDiff, Nat.reduceEqDiff, reduceCtorEq, Int.reduceToNat, Int.reduceLE, Int.reduceLT, Int.reduceBEq, Int.reduceBNe, mCall, awake1_spec, light_spec t _ _ hs, h1]
    rw [counts_loop (t := t) ?hb ?hs hs]
    case hb => rfl
    case hs => rfl
    have e1 := deps_all t
    have e2 := depth_size t
    have e3 : decide ((t.depth : Int) ≤ (t.size : Int)) = true := by simp; omega
    simp -implicitDefEqProofs (disch := decide +kernel) only [go_sem, ↓reduceIte, Nat.reduceSub, Nat.reduceAdd, Nat.reduceMul, Nat.reduceBEq, Nat.reduceLT, Nat.reduceLeDiff, Nat.reduceEqDiff, reduceCtorEq, Int.reduceToNat, Int.reduceLE, Int.reduceLT, Int.reduceBEq, Int.reduceBNe, mCall, awake1_spec, tsize_spec t hs, tdepth_spec t hs, wrap_succ (n := deps' t t.args.length) (by omega), e1, e3]

theorem may_arg {t x : Tm} (hx : x ∈ t.args) (h : mayB t = true) : mayB x = true := by
  unfold mayB at h ⊢
  simp only [Bool.and_eq_true, decide_eq_true_eq] at h ⊢
  obtain ⟨⟨h1, h2⟩, h3⟩ := h
  refine ⟨⟨?_, by have := size_arg hx; omega⟩, ?_⟩
  · rw [nodesB_eq, Bool.and_eq_true, allB_iff] at h1
    obtain ⟨i, hi⟩ := List.mem_iff_getElem?.1 hx
    have hlt := (List.getElem?_eq_some_iff.1 hi).1
    have := h1.2 i hlt
    rw [arg_get hlt] at hi
    cases hi
    exact this
  · have : x.depth < t.depth := by
      rw [depth_eq t]
      have : ∀ l : List Tm, x ∈ l → x.depth ≤ (l.map Tm.depth).foldr max 0 := by
        intro l
        induction l with
        | nil => intro h; cases h
        | cons a l ih =>
          intro h
          simp only [List.map_cons, List.foldr_cons]
          rcases List.mem_cons.1 h with rfl | h
          · omega
          · have := ih h; omega
      have := this _ hx
      omega
    omega
def parts_S (t : Tm) (i : Nat) : St := mk 81 [(1, .lref 1 0), (5, dI i)] [(1, cel3 t)] [] []
theorem parts_loop {b : Code} {σ : St} {t : Tm} (hb : b = cf (cf (cs (cf (cs (cs (cs (cs (bodyOf Try.f9))))))))) (hσ : σ = parts_S t 0) (hs : t.size < room) (hm : mayB t = true) :
    (lim C).code 9 (.loop b) σ = some (.exit 0, mk 81 [(1, .lref 1 0), (5, dI t.args.length), (29, dB false)] [(1, cel3 t)] [] []) := by
  subst hb hσ
  have hr : room = 1099511627776 := rfl
  have hl := len_size t
  refine loop_run (parts_S t) t.args.length ?_ ?_ (by simp)
  · intro i hi
    have hsz := size_arg (arg_mem hi)
    have h1 := tMay_spec (t.arg i) (by omega)
    rw [may_arg (arg_mem hi) hm] at h1
    simp -implicitDefEqProofs (disch := decide +kernel) only [cf, cs, bodyOf, Try.f9, Option.getD_some, go_sem, ↓reduceIte, Nat.reduceSub, Nat.reduceAdd, Nat.reduceMul, Nat.reduceBEq, Nat.reduceLT, Nat.reduceLeDiff, Nat.reduceEqDiff, reduceCtorEq, Int.reduceToNat, Int.reduceLE, Int.reduceLT, Int.reduceBEq, Int.reduceBNe, mCall, parts_S, lt_true hi, arg_get hi, h1, wrap_succ (n := i) (by omega)]
  · simp -implicitDefEqProofs (disch := decide +kernel) only [cf, cs, bodyOf, Try.f9, Option.getD_some, go_sem, ↓reduceIte, Nat.reduceSub, Nat.reduceAdd, Nat.reduceMul, Nat.reduceBEq, Nat.reduceLT, Nat.reduceLeDiff, Nat.reduceEqDiff, reduceCtorEq, Int.reduceToNat, Int.reduceLE, Int.reduceLT, Int.reduceBEq, Int.reduceBNe, mCall, parts_S, lt_false (Nat.le_refl t.args.length)]
def zeroT : Tm := .mk 0 0 []
theorem zeroT_enc : Dv.agg [.int .i64 0, .int .i64 0, .slc []] = enc zeroT := by simp [zeroT, enc_mk, encs]
theorem enc_fold' (k h : Int) (l : List Tm) : Dv.agg [.int .i64 k, .int .i64 h, .slc (encs l)] = enc (.mk k h l) := (enc_mk k h l).symm
theorem kind_mk (k h : Int) (l : List Tm) : (Tm.mk k h l).kind = k := rfl
theorem head_mk (k h : Int) (l : List Tm) : (Tm.mk k h l).head = h := rfl
theorem args_mk (k h : Int) (l : List Tm) : (Tm.mk k h l).args = l := rfl
theorem may_node {t : Tm} (h : nodeOk t = false) : mayB t = false := by
  unfold mayB
  rw [nodesB_eq, h]
  simp
theorem size_mk (k h : Int) (l : List Tm) : (Tm.mk k h l).size = 1 + (l.map Tm.size).sum := by rw [size_eq]; rfl
theorem termParts_holds (t : Tm) (w : Wf t) (hs : t.size ≤ 1048576) : ∃ h, (lim C).call 9 [dT t] [] = some (.ret (dB true), h) := by
  have hr : room = 1099511627776 := rfl
  have hs : t.size < room := by omega
  have hl := len_size t
  refine ⟨[], ?_⟩
  rw [ev_fn 9 Try.f9 _ _ _ rfl Try.func9 rfl Try.ntmps9 rfl]
  cases h1 : lightB t 3000 60
  · simp -implicitDefEqProofs (disch := decide +kernel) only [go_sem, ↓reduceIte, Nat.reduceSub, Nat.reduceAdd, Nat.reduceMul, Nat.reduceBEq, Nat.reduceLT, Nat.reduceLeDiff, Nat.reduceEqDiff, reduceCtorEq, Int.reduceToNat, Int.reduceLE, Int.reduceLT, Int.reduceBEq, Int.reduceBNe, mCall, awake1_spec, light_spec t _ _ hs, tMay_spec t hs, h1]
  · skip
    cases h2 : mayB t
    · simp -implicitDefEqProofs (disch := decide +kernel) only [go_sem, ↓reduceIte, Nat.reduceSub, Nat.reduceAdd, Nat.reduceMul, Nat.reduceBEq, Nat.reduceLT, Nat.reduceLeDiff, Nat.reduceEqDiff, reduceCtorEq, Int.reduceToNat, Int.reduceLE, Int.reduceLT, Int.reduceBEq, Int.reduceBNe, mCall, awake1_spec, light_spec t _ _ hs, tMay_spec t hs, h1, h2]
    · skip
      simp -implicitDefEqProofs (disch := decide +kernel) only [go_sem, ↓reduceIte, Nat.reduceSub, Nat.reduceAdd, Nat.reduceMul, Nat.reduceBEq, Nat.reduceLT, Nat.reduceLeDiff, Nat.reduceEqDiff, reduceCtorEq, Int.reduceToNat, Int.reduceLE, Int.reduceLT, Int.reduceBEq, Int.reduceBNe, mCall, awake1_spec, light_spec t _ _ hs, tMay_spec t hs, h1, h2]
      rw [parts_loop (t := t) ?hb ?hs hs h2]
      case hb => rfl
      case hs => rfl
      have ha1 := fun locs heap => app_first (encs t.args) 3 locs heap (by rw [encs_length]; omega) (encs_all _)
      have ha2 := fun locs heap => app_more (encs t.args) [enc zeroT] 3 locs heap (by rw [encs_length]; simp; omega) (encs_all _) (by simp [enc_width])
      simp only [encs_length] at ha1 ha2
      have hz : encs t.args ++ [enc zeroT] = encs (t.args ++ [zeroT]) := by rw [encs_append]; rfl
      rw [hz] at ha2
      have f1 := enc_fold' t.kind t.head (t.args ++ [zeroT])
      have f2 := enc_fold' 7 t.head t.args
      have f3 := enc_fold' t.kind (-1) t.args
      have se := size_eq t
      have z1 : zeroT.size = 1 := by simp [zeroT, Tm.size]
      have s1 : (Tm.mk t.kind t.head (t.args ++ [zeroT])).size < room := by rw [size_mk]; simp [z1]; omega
      have s2 : (Tm.mk 7 t.head t.args).size < room := by rw [size_mk]; omega
      have s3 : (Tm.mk t.kind (-1) t.args).size < room := by rw [size_mk]; omega
      have m1 := tMay_spec _ s1
      have m2 := tMay_spec _ s2
      have m3 := tMay_spec _ s3
      rw [may_node (by simp [nodeOk, kind_mk])] at m2
      rw [may_node (by unfold nodeOk; simp [kind_mk, head_mk])] at m3
      have hn := may_nodes h2
      rw [nodesB_eq, Bool.and_eq_true] at hn
      have hn := hn.1
      cases k0 : (t.kind == 0)
      · cases k1 : (t.kind == 1)
        · cases k3 : (t.kind == 3)
          · simp -implicitDefEqProofs (disch := decide +kernel) only [go_sem, ↓reduceIte, Nat.reduceSub, Nat.reduceAdd, Nat.reduceMul, Nat.reduceBEq, Nat.reduceLT, Nat.reduceLeDiff, Nat.reduceEqDiff, reduceCtorEq, Int.reduceToNat, Int.reduceLE, Int.reduceLT, Int.reduceBEq, Int.reduceBNe, mCall, awake1_spec, ha1, ha2, zeroT_enc, hz, f1, f2, f3, m1, m2, m3, k0, k1, k3]
          · rw [may_node (by simp at k3; simp [nodeOk, k3] at hn; simp [nodeOk, k3, kind_mk, head_mk, args_mk, hn])] at m1
            simp -implicitDefEqProofs (disch := decide +kernel) only [go_sem, ↓reduceIte, Nat.reduceSub, Nat.reduceAdd, Nat.reduceMul, Nat.reduceBEq, Nat.reduceLT, Nat.reduceLeDiff, Nat.reduceEqDiff, reduceCtorEq, Int.reduceToNat, Int.reduceLE, Int.reduceLT, Int.reduceBEq, Int.reduceBNe, mCall, awake1_spec, ha1, ha2, zeroT_enc, hz, f1, f2, f3, m1, m2, m3, k0, k1, k3]
        · rw [may_node (by simp at k1; simp [nodeOk, k1] at hn; simp [nodeOk, k1, kind_mk, head_mk, args_mk, hn])] at m1
          simp -implicitDefEqProofs (disch := decide +kernel) only [go_sem, ↓reduceIte, Nat.reduceSub, Nat.reduceAdd, Nat.reduceMul, Nat.reduceBEq, Nat.reduceLT, Nat.reduceLeDiff, Nat.reduceEqDiff, reduceCtorEq, Int.reduceToNat, Int.reduceLE, Int.reduceLT, Int.reduceBEq, Int.reduceBNe, mCall, awake1_spec, ha1, ha2, zeroT_enc, hz, f1, f2, f3, m1, m2, m3, k0, k1]
      · rw [may_node (by simp at k0; simp [nodeOk, k0] at hn; simp [nodeOk, k0, kind_mk, head_mk, args_mk, hn])] at m1
        simp -implicitDefEqProofs (disch := decide +kernel) only [go_sem, ↓reduceIte, Nat.reduceSub, Nat.reduceAdd, Nat.reduceMul, Nat.reduceBEq, Nat.reduceLT, Nat.reduceLeDiff, Nat.reduceEqDiff, reduceCtorEq, Int.reduceToNat, Int.reduceLE, Int.reduceLT, Int.reduceBEq, Int.reduceBNe, mCall, awake1_spec, ha1, ha2, zeroT_enc, hz, f1, f2, f3, m1, m2, m3, k0]
theorem scoped_mono {v v' m m' : Int} (h1 : v ≤ v') (h2 : m ≤ m') : ∀ t : Tm, scopedB t v m = true → scopedB t v' m' = true := by
  have key : ∀ t : Tm, ∀ v v' : Int, v ≤ v' → scopedB t v m = true → scopedB t v' m' = true := by
    refine Tm.ind fun t ih v v' h1 h => ?_
    rw [scopedB_eq] at h ⊢
    simp only [Bool.and_eq_true, allB_iff] at h ⊢
    refine ⟨?_, fun i hi => ih _ (arg_mem hi) _ _ (by omega) (h.2 i hi)⟩
    have := h.1
    simp only [Bool.not_eq_true', Bool.or_eq_false_iff, Bool.and_eq_false_iff, decide_eq_false_iff_not, beq_eq_false_iff_ne] at this ⊢
    omega
  exact fun t => key t v v' h1
def scopes_S (t : Tm) (v m r : Int) (i : Nat) : St := mk 92 [(1, dI v), (2, dI m), (3, dI r), (4, .lref 4 0), (11, dI i)] [(4, cel3 t)] [] []
theorem scopes_loop {b : Code} {σ : St} {t : Tm} {v m r : Int} (hb : b = cf (cf (cs (cf (cs (cs (cs (cs (bodyOf Try.f7))))))))) (hσ : σ = scopes_S t v m r 0) (w : Wf t) (hs : t.size < room) (hv : 0 ≤ v ∧ v ≤ 1000) (hn : nodesB t = true) (hsc : scopedB t v m = true) :
    (lim C).code 7 (.loop b) σ = some (.exit 0, mk 92 [(1, dI v), (2, dI m), (3, dI r), (4, .lref 4 0), (11, dI t.args.length), (62, dB false)] [(4, cel3 t)] [] []) := by
  subst hb hσ
  have hr : room = 1099511627776 := rfl
  have hl := len_size t
  refine loop_run (scopes_S t v m r) t.args.length ?_ ?_ (by simp)
  · intro i hi
    have hsz := size_arg (arg_mem hi)
    have hbl := bnd_le t i
    have hw : IntKind.wrap .i64 (v + (bnd t i : Int)) = v + bnd t i := wrap_ok (by omega) (by omega)
    rw [nodesB_eq, Bool.and_eq_true, allB_iff] at hn
    rw [scopedB_eq, Bool.and_eq_true, allB_iff] at hsc
    obtain ⟨x, hx⟩ := tscoped_spec (t.arg i) (v + bnd t i) m (by omega) (calm_of (w.args _ (arg_mem hi)) (by omega) (hn.2 i hi))
    rw [hsc.2 i hi] at hx
    simp -implicitDefEqProofs (disch := decide +kernel) only [cf, cs, bodyOf, Try.f7, Option.getD_some, go_sem, ↓reduceIte, Nat.reduceSub, Nat.reduceAdd, Nat.reduceMul, Nat.reduceBEq, Nat.reduceLT, Nat.reduceLeDiff, Nat.reduceEqDiff, reduceCtorEq, Int.reduceToNat, Int.reduceLE, Int.reduceLT, Int.reduceBEq, Int.reduceBNe, mCall, scopes_S, lt_true hi, arg_get hi, binds_spec t i hs hi, hw, hx, wrap_succ (n := i) (by omega)]
  · simp -implicitDefEqProofs (disch := decide +kernel) only [cf, cs, bodyOf, Try.f7, Option.getD_some, go_sem, ↓reduceIte, Nat.reduceSub, Nat.reduceAdd, Nat.reduceMul, Nat.reduceBEq, Nat.reduceLT, Nat.reduceLeDiff, Nat.reduceEqDiff, reduceCtorEq, Int.reduceToNat, Int.reduceLE, Int.reduceLT, Int.reduceBEq, Int.reduceBNe, mCall, scopes_S, lt_false (Nat.le_refl t.args.length)]
theorem termScopes_holds (t : Tm) (w : Wf t) (hs : t.size < room) (v : Int) (iv : in64 v) (m : Int) (im : in64 m) (r : Int) (ir : in64 r) : ∃ h, (lim C).call 7 [dT t, dI v, dI m, dI r] [] = some (.ret (dB true), h) := by
  have hr : room = 1099511627776 := rfl
  refine ⟨[], ?_⟩
  have hsc : mayB t = true → ∃ x, (lim C).call 35 [dT t, dI v, dI m] [] = some (.ret (dB (scopedB t v m)), x) := fun h => tscoped_spec t v m hs (calm_of w hs (may_nodes h))
  rw [ev_fn 7 Try.f7 _ _ _ rfl Try.func7 rfl Try.ntmps7 rfl]
  cases h1 : lightB t 9000 200
  · simp -implicitDefEqProofs (disch := decide +kernel) only [go_sem, ↓reduceIte, Nat.reduceSub, Nat.reduceAdd, Nat.reduceMul, Nat.reduceBEq, Nat.reduceLT, Nat.reduceLeDiff, Nat.reduceEqDiff, reduceCtorEq, Int.reduceToNat, Int.reduceLE, Int.reduceLT, Int.reduceBEq, Int.reduceBNe, mCall, awake1_spec, light_spec t _ _ hs, tMay_spec t hs, h1]
  · skip
    cases h2 : mayB t
    · simp -implicitDefEqProofs (disch := decide +kernel) only [go_sem, ↓reduceIte, Nat.reduceSub, Nat.reduceAdd, Nat.reduceMul, Nat.reduceBEq, Nat.reduceLT, Nat.reduceLeDiff, Nat.reduceEqDiff, reduceCtorEq, Int.reduceToNat, Int.reduceLE, Int.reduceLT, Int.reduceBEq, Int.reduceBNe, mCall, awake1_spec, light_spec t _ _ hs, tMay_spec t hs, h1, h2]
    · skip
      cases h3 : decide (v < 0)
      rotate_left
      · simp -implicitDefEqProofs (disch := decide +kernel) only [go_sem, ↓reduceIte, Nat.reduceSub, Nat.reduceAdd, Nat.reduceMul, Nat.reduceBEq, Nat.reduceLT, Nat.reduceLeDiff, Nat.reduceEqDiff, reduceCtorEq, Int.reduceToNat, Int.reduceLE, Int.reduceLT, Int.reduceBEq, Int.reduceBNe, mCall, awake1_spec, light_spec t _ _ hs, tMay_spec t hs, h1, h2, h3]
      cases h4 : decide (v > 1000)
      rotate_left
      · simp -implicitDefEqProofs (disch := decide +kernel) only [go_sem, ↓reduceIte, Nat.reduceSub, Nat.reduceAdd, Nat.reduceMul, Nat.reduceBEq, Nat.reduceLT, Nat.reduceLeDiff, Nat.reduceEqDiff, reduceCtorEq, Int.reduceToNat, Int.reduceLE, Int.reduceLT, Int.reduceBEq, Int.reduceBNe, mCall, awake1_spec, light_spec t _ _ hs, tMay_spec t hs, h1, h2, h3, h4]
      cases h5 : decide (m < 0)
      rotate_left
      · simp -implicitDefEqProofs (disch := decide +kernel) only [go_sem, ↓reduceIte, Nat.reduceSub, Nat.reduceAdd, Nat.reduceMul, Nat.reduceBEq, Nat.reduceLT, Nat.reduceLeDiff, Nat.reduceEqDiff, reduceCtorEq, Int.reduceToNat, Int.reduceLE, Int.reduceLT, Int.reduceBEq, Int.reduceBNe, mCall, awake1_spec, light_spec t _ _ hs, tMay_spec t hs, h1, h2, h3, h4, h5]
      cases h6 : decide (m > 1000)
      rotate_left
      · simp -implicitDefEqProofs (disch := decide +kernel) only [go_sem, ↓reduceIte, Nat.reduceSub, Nat.reduceAdd, Nat.reduceMul, Nat.reduceBEq, Nat.reduceLT, Nat.reduceLeDiff, Nat.reduceEqDiff, reduceCtorEq, Int.reduceToNat, Int.reduceLE, Int.reduceLT, Int.reduceBEq, Int.reduceBNe, mCall, awake1_spec, light_spec t _ _ hs, tMay_spec t hs, h1, h2, h3, h4, h5, h6]
      cases h7 : decide (r < 0)
      rotate_left
      · simp -implicitDefEqProofs (disch := decide +kernel) only [go_sem, ↓reduceIte, Nat.reduceSub, Nat.reduceAdd, Nat.reduceMul, Nat.reduceBEq, Nat.reduceLT, Nat.reduceLeDiff, Nat.reduceEqDiff, reduceCtorEq, Int.reduceToNat, Int.reduceLE, Int.reduceLT, Int.reduceBEq, Int.reduceBNe, mCall, awake1_spec, light_spec t _ _ hs, tMay_spec t hs, h1, h2, h3, h4, h5, h6, h7]
      cases h8 : decide (r > 1000)
      rotate_left
      · simp -implicitDefEqProofs (disch := decide +kernel) only [go_sem, ↓reduceIte, Nat.reduceSub, Nat.reduceAdd, Nat.reduceMul, Nat.reduceBEq, Nat.reduceLT, Nat.reduceLeDiff, Nat.reduceEqDiff, reduceCtorEq, Int.reduceToNat, Int.reduceLE, Int.reduceLT, Int.reduceBEq, Int.reduceBNe, mCall, awake1_spec, light_spec t _ _ hs, tMay_spec t hs, h1, h2, h3, h4, h5, h6, h7, h8]
      obtain ⟨x, hx⟩ := hsc h2
      have a3 : 0 ≤ v := by simpa using h3
      have a4 : v ≤ 1000 := by simpa using h4
      have a5 : 0 ≤ m := by simpa using h5
      have a6 : m ≤ 1000 := by simpa using h6
      have a7 : 0 ≤ r := by simpa using h7
      have a8 : r ≤ 1000 := by simpa using h8
      cases h9 : scopedB t v m
      · rw [h9] at hx
        simp -implicitDefEqProofs (disch := decide +kernel) only [go_sem, ↓reduceIte, Nat.reduceSub, Nat.reduceAdd, Nat.reduceMul, Nat.reduceBEq, Nat.reduceLT, Nat.reduceLeDiff, Nat.reduceEqDiff, reduceCtorEq, Int.reduceToNat, Int.reduceLE, Int.reduceLT, Int.reduceBEq, Int.reduceBNe, mCall, awake1_spec, light_spec t _ _ hs, tMay_spec t hs, h1, h2, h3, h4, h5, h6, h7, h8, hx]
      · rw [h9] at hx
        simp -implicitDefEqProofs (disch := decide +kernel) only [go_sem, ↓reduceIte, Nat.reduceSub, Nat.reduceAdd, Nat.reduceMul, Nat.reduceBEq, Nat.reduceLT, Nat.reduceLeDiff, Nat.reduceEqDiff, reduceCtorEq, Int.reduceToNat, Int.reduceLE, Int.reduceLT, Int.reduceBEq, Int.reduceBNe, mCall, awake1_spec, light_spec t _ _ hs, tMay_spec t hs, h1, h2, h3, h4, h5, h6, h7, h8, hx]
        rw [scopes_loop (t := t) ?hb ?hs w hs ⟨a3, a4⟩ (may_nodes h2) h9]
        case hb => rfl
        case hs => rfl
        obtain ⟨y, hy⟩ := tscoped_spec t (v + r) m hs (calm_of w hs (may_nodes h2))
        obtain ⟨z, hz⟩ := tscoped_spec t v (m + r) hs (calm_of w hs (may_nodes h2))
        rw [scoped_mono (by omega) (Int.le_refl m) t h9] at hy
        rw [scoped_mono (Int.le_refl v) (by omega) t h9] at hz
        simp -implicitDefEqProofs (disch := decide +kernel) only [go_sem, ↓reduceIte, Nat.reduceSub, Nat.reduceAdd, Nat.reduceMul, Nat.reduceBEq, Nat.reduceLT, Nat.reduceLeDiff, Nat.reduceEqDiff, reduceCtorEq, Int.reduceToNat, Int.reduceLE, Int.reduceLT, Int.reduceBEq, Int.reduceBNe, mCall, wrap_ok (n := v + r) (by omega) (by omega), wrap_ok (n := m + r) (by omega) (by omega), hy, hz]
end Go.Proofs.Ytfelfahgeannaaa
