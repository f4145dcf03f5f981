/- Laws of layer 4: the example, MetaNone, MetaScopes. -/
import Derived.Test.YtmemmdfjlhamfaaF40
import Derived.Test.YtmemmdfjlhamfaaF20
set_option linter.unusedSimpArgs false
set_option linter.unusedVariables false
set_option maxRecDepth 100000
namespace Go.Proofs.Ytmemmdfjlhamfaa
open Go.Proofs
def w4 : Tm := .mk 3 0 [.mk 4 4 []]
def g4 (i d : Int) : Int := if i < d then i else if i = d then d + 3 else i + 4
theorem ex4_apply : applyR w1 ⟨[.mk 4 3 []], 5⟩ = (w4, 0) := by
  have hm : mapT g4 w1 ((0 : Nat) : Int) = w4 := by
    simp [w1, w4, g4, mapT, bnd, Tm.kind, Tm.args, List.range, List.range.loop]
  have h := apply_ren (s := ⟨[.mk 4 3 []], 5⟩) (G := g4) (P := fun _ _ => true) (t := w1) 0
    (ren_all (s := ⟨[.mk 4 3 []], 5⟩) (G := g4) (P := fun _ _ => true) (show (0 : Int) ≤ 5 by omega) (fun i hi _ => by
      unfold ofS g4
      simp only [List.length_cons, List.length_nil]
      split
      · obtain rfl : i = 0 := by omega
        rfl
      · rw [if_neg (by omega), if_neg (by omega)]; congr 1; omega) (fun d => by unfold g4; rw [if_pos (by omega)]) (fun i d hi _ => ⟨rfl, by unfold g4; split <;> split <;> (try split) <;> (try split) <;> omega⟩) (fun i d hi _ => by unfold g4; split <;> (try split) <;> omega))
    w1_may (smay_of (by simp) (by omega) (by omega) (fun x hx => by obtain rfl : x = .mk 4 3 [] := by simpa using hx
                                                                    exact leaf_var (by omega))) (canB_true _ _) (by
      rw [hm]
      refine may_of (nodes_mk (by simp [nodeOk, mk_kind, mk_head, mk_args]) ?_) ?_ ?_
      · intro x hx
        obtain rfl : x = .mk 4 4 [] := by simpa using hx
        exact nodes_mk (node_heads rfl (by decide) _) (by simp)
      · unfold w4; rw [mk_size]; simp [mk_size]
      · unfold w4; rw [depth_eq]; simp [mk_args, depth_eq])
  rw [hm] at h
  exact h
def x4 : Tm := metaT 0 [.mk 4 3 []]
theorem x4_may : mayB x4 = true := by
  refine may_of (nodes_mk (by simp [nodeOk, mk_kind, mk_head, mk_args]) ?_) ?_ ?_
  · intro x hx
    obtain rfl : x = .mk 4 3 [] := by simpa using hx
    exact nodes_mk (node_heads rfl (by decide) _) (by simp)
  · unfold x4 metaT; rw [mk_size]; simp [mk_size]
  · unfold x4 metaT; rw [depth_eq]; simp [mk_args, depth_eq]
theorem metas_leaf {k h : Int} (hk : k ≠ 6) : metasB (.mk k h []) = false := by
  rw [metasB_no]; exact ⟨hk, fun i hi => by simp [mk_args] at hi⟩
theorem x4_fill : FillR x4 [w1] 5 = (w4, 0) := by
  unfold x4
  rw [fillR_meta w1_may (by omega) (by omega) x4_may (fun y hy => by
    obtain rfl : y = .mk 4 3 [] := by simpa using hy
    exact metas_leaf (by omega)) (fun y hy => by
    obtain rfl : y = .mk 4 3 [] := by simpa using hy
    exact leaf_var (by omega))]
  exact ex4_apply
theorem w1_vle (K : Int) (h : 1 ≤ K) : vleB K w1 = true := vle_mk (fun h => by omega) (by
  intro x hx
  obtain rfl : x = .mk 4 1 [] := by simpa using hx
  exact vle_var h)
theorem x4_vle (K : Int) (h : 3 ≤ K) : vleB K x4 = true := vle_mk (fun h => by omega) (by
  intro x hx
  obtain rfl : x = .mk 4 3 [] := by simpa using hx
  exact vle_var h)
theorem awake4_spec : (lim C).call 18 [] [] = retB true := by
  have hr : room = 1099511627776 := rfl
  have hx : enc x4 = .agg [.int .i64 6, .int .i64 0, .slc [.agg [.int .i64 4, .int .i64 3, .slc []]]] := by unfold x4 metaT; rw [enc_mk, encs, List.map_cons, List.map_nil, enc_mk]; rfl
  have hf : enc w1 = .agg [.int .i64 3, .int .i64 0, .slc [.agg [.int .i64 4, .int .i64 1, .slc []]]] := by unfold w1; rw [enc_mk, encs, List.map_cons, List.map_nil, enc_mk]; rfl
  have hw : enc w4 = .agg [.int .i64 3, .int .i64 0, .slc [.agg [.int .i64 4, .int .i64 4, .slc []]]] := by unfold w4; rw [enc_mk, encs, List.map_cons, List.map_nil, enc_mk]; rfl
  obtain ⟨h, ha⟩ := mFill_spec (th := [w1]) (K := 3) ⟨by omega, by decide, by simp; omega, by simp [w1_size, w1_vle]; omega⟩ x4 (by have := (may_parts x4_may).2.1; omega) (x4_vle 3 (by omega)) 5
  rw [x4_fill] at ha
  have ha' : (lim C).call 24 [.d (.agg [.int .i64 6, .int .i64 0, .slc [.agg [.int .i64 4, .int .i64 3, .slc []]]]), .d (.slc [.agg [.int .i64 3, .int .i64 0, .slc [.agg [.int .i64 4, .int .i64 1, .slc []]]]]), .d (.int .i64 5)] [] = some (.ret (.tup [.d (.agg [.int .i64 3, .int .i64 0, .slc [.agg [.int .i64 4, .int .i64 4, .slc []]]]), dI 0]), h) := by
    rw [← hx, ← hf, ← hw]; exact ha
  have h33 : ((1 : Nat) : Int) = 1 := rfl
  rw [ev_fn 18 Try.f18 _ _ _ rfl Try.func18 rfl Try.ntmps18 rfl]
  simp -implicitDefEqProofs (disch := decide +kernel) only [go_sem, ↓reduceIte, Nat.reduceSub, Nat.reduceAdd, Nat.reduceMul, Nat.reduceBEq, Nat.reduceLT, Nat.reduceLeDiff, Nat.reduceEqDiff, reduceCtorEq, Int.reduceToNat, Int.reduceLE, Int.reduceLT, Int.reduceBEq, Int.reduceBNe, mCall, ha', h33]
theorem metas_spec : ∀ t : Tm, t.size < room → (lim C).call 32 [dT t] [] = retB (metasB t) := by
  refine Tm.ind fun t ih hs => ?_
  have hr : room = 1099511627776 := rfl
  have hl := len_size t
  have hloop : (lim C).code 32 (.loop (cf (cf (cs (cf (cs (cs (bodyOf Try.f32)))))))) (mk 22 [(1, .lref 1 0), (3, dI (0 : Nat))] [(1, cel3 t)] [] []) = some (if allB t.args.length (fun k => !metasB (t.arg k)) then (.exit 0, mk 22 [(1, .lref 1 0), (3, dI t.args.length), (12, dB false)] [(1, cel3 t)] [] []) else (.ret, mk 22 [(2, dB true)] [] [] [])) := by
    refine loop_all (fun i => mk 22 [(1, .lref 1 0), (3, dI i)] [(1, cel3 t)] [] []) t.args.length _ (fun i hi hp => ?_) (fun i hi hp => ?_) ?_ (by simp) (by simp)
    · have hc := ih _ (arg_mem hi) (by have := size_arg (arg_mem hi); omega)
      rw [show metasB (t.arg i) = false by simpa using hp] at hc
      simp -implicitDefEqProofs (disch := decide +kernel) only [cf, cs, bodyOf, Try.f32, Option.getD_some, go_sem, ↓reduceIte, Nat.reduceSub, Nat.reduceAdd, Nat.reduceMul, Nat.reduceBEq, Nat.reduceLT, Nat.reduceLeDiff, Nat.reduceEqDiff, reduceCtorEq, Int.reduceToNat, Int.reduceLE, Int.reduceLT, Int.reduceBEq, Int.reduceBNe, mCall, cel3, lt_true hi, arg_get hi, hc, wrap_succ (n := i) (by omega)]
    · have hc := ih _ (arg_mem hi) (by have := size_arg (arg_mem hi); omega)
      rw [show metasB (t.arg i) = true by simpa using hp] at hc
      simp -implicitDefEqProofs (disch := decide +kernel) only [cf, cs, bodyOf, Try.f32, Option.getD_some, go_sem, ↓reduceIte, Nat.reduceSub, Nat.reduceAdd, Nat.reduceMul, Nat.reduceBEq, Nat.reduceLT, Nat.reduceLeDiff, Nat.reduceEqDiff, reduceCtorEq, Int.reduceToNat, Int.reduceLE, Int.reduceLT, Int.reduceBEq, Int.reduceBNe, mCall, cel3, lt_true hi, arg_get hi, hc]
    · simp -implicitDefEqProofs (disch := decide +kernel) only [cf, cs, bodyOf, Try.f32, Option.getD_some, go_sem, ↓reduceIte, Nat.reduceSub, Nat.reduceAdd, Nat.reduceMul, Nat.reduceBEq, Nat.reduceLT, Nat.reduceLeDiff, Nat.reduceEqDiff, reduceCtorEq, Int.reduceToNat, Int.reduceLE, Int.reduceLT, Int.reduceBEq, Int.reduceBNe, mCall, cel3, lt_false (Nat.le_refl t.args.length)]
  rw [metasB_eq]
  rw [ev_fn 32 Try.f32 _ _ _ rfl Try.func32 rfl Try.ntmps32 rfl]
  cases k6 : (t.kind == 6)
  · simp -implicitDefEqProofs (disch := decide +kernel) only [go_sem, ↓reduceIte, Nat.reduceSub, Nat.reduceAdd, Nat.reduceMul, Nat.reduceBEq, Nat.reduceLT, Nat.reduceLeDiff, Nat.reduceEqDiff, reduceCtorEq, Int.reduceToNat, Int.reduceLE, Int.reduceLT, Int.reduceBEq, Int.reduceBNe, mCall, cells_enc, cel3, k6]
    rw [loop_at hloop ?hb ?hs]
    case hb => rfl
    case hs => rfl
    cases hall : allB t.args.length (fun k => !metasB (t.arg k))
    · simp -implicitDefEqProofs (disch := decide +kernel) only [go_sem, ↓reduceIte, Nat.reduceSub, Nat.reduceAdd, Nat.reduceMul, Nat.reduceBEq, Nat.reduceLT, Nat.reduceLeDiff, Nat.reduceEqDiff, reduceCtorEq, Int.reduceToNat, Int.reduceLE, Int.reduceLT, Int.reduceBEq, Int.reduceBNe, mCall, hall]
    · simp -implicitDefEqProofs (disch := decide +kernel) only [go_sem, ↓reduceIte, Nat.reduceSub, Nat.reduceAdd, Nat.reduceMul, Nat.reduceBEq, Nat.reduceLT, Nat.reduceLeDiff, Nat.reduceEqDiff, reduceCtorEq, Int.reduceToNat, Int.reduceLE, Int.reduceLT, Int.reduceBEq, Int.reduceBNe, mCall, hall]
  · simp -implicitDefEqProofs (disch := decide +kernel) only [go_sem, ↓reduceIte, Nat.reduceSub, Nat.reduceAdd, Nat.reduceMul, Nat.reduceBEq, Nat.reduceLT, Nat.reduceLeDiff, Nat.reduceEqDiff, reduceCtorEq, Int.reduceToNat, Int.reduceLE, Int.reduceLT, Int.reduceBEq, Int.reduceBNe, mCall, cells_enc, cel3, k6]
theorem bare_spec : ∀ t : Tm, t.size < room → (lim C).call 21 [dT t] [] = retB (bareB t) := by
  refine Tm.ind fun t ih hs => ?_
  have hr : room = 1099511627776 := rfl
  have hl := len_size t
  have hloop : (lim C).code 21 (.loop (cf (cf (cs (cf (cs (cs (bodyOf Try.f21)))))))) (mk 29 [(1, .lref 1 0), (3, dI (0 : Nat))] [(1, cel3 t)] [] []) = some (if allB t.args.length (fun k => bareB (t.arg k)) then (.exit 0, mk 29 [(1, .lref 1 0), (3, dI t.args.length), (18, dB false)] [(1, cel3 t)] [] []) else (.ret, mk 29 [(2, dB false)] [] [] [])) := by
    refine loop_all (fun i => mk 29 [(1, .lref 1 0), (3, dI i)] [(1, cel3 t)] [] []) t.args.length _ (fun i hi hp => ?_) (fun i hi hp => ?_) ?_ (by simp) (by simp)
    · have hc := ih _ (arg_mem hi) (by have := size_arg (arg_mem hi); omega)
      rw [hp] at hc
      simp -implicitDefEqProofs (disch := decide +kernel) only [cf, cs, bodyOf, Try.f21, Option.getD_some, go_sem, ↓reduceIte, Nat.reduceSub, Nat.reduceAdd, Nat.reduceMul, Nat.reduceBEq, Nat.reduceLT, Nat.reduceLeDiff, Nat.reduceEqDiff, reduceCtorEq, Int.reduceToNat, Int.reduceLE, Int.reduceLT, Int.reduceBEq, Int.reduceBNe, mCall, cel3, lt_true hi, arg_get hi, hc, wrap_succ (n := i) (by omega)]
    · have hc := ih _ (arg_mem hi) (by have := size_arg (arg_mem hi); omega)
      rw [hp] at hc
      simp -implicitDefEqProofs (disch := decide +kernel) only [cf, cs, bodyOf, Try.f21, Option.getD_some, go_sem, ↓reduceIte, Nat.reduceSub, Nat.reduceAdd, Nat.reduceMul, Nat.reduceBEq, Nat.reduceLT, Nat.reduceLeDiff, Nat.reduceEqDiff, reduceCtorEq, Int.reduceToNat, Int.reduceLE, Int.reduceLT, Int.reduceBEq, Int.reduceBNe, mCall, cel3, lt_true hi, arg_get hi, hc]
    · simp -implicitDefEqProofs (disch := decide +kernel) only [cf, cs, bodyOf, Try.f21, Option.getD_some, go_sem, ↓reduceIte, Nat.reduceSub, Nat.reduceAdd, Nat.reduceMul, Nat.reduceBEq, Nat.reduceLT, Nat.reduceLeDiff, Nat.reduceEqDiff, reduceCtorEq, Int.reduceToNat, Int.reduceLE, Int.reduceLT, Int.reduceBEq, Int.reduceBNe, mCall, cel3, lt_false (Nat.le_refl t.args.length)]
  rw [bareB_eq, show decide (t.args.length > 0) = decide ((t.args.length : Int) > 0) by by_cases h : t.args.length > 0 <;> simp [h] <;> omega]
  rw [ev_fn 21 Try.f21 _ _ _ rfl Try.func21 rfl Try.ntmps21 rfl]
  cases k6 : (t.kind == 6)
  · simp -implicitDefEqProofs (disch := decide +kernel) only [go_sem, ↓reduceIte, Nat.reduceSub, Nat.reduceAdd, Nat.reduceMul, Nat.reduceBEq, Nat.reduceLT, Nat.reduceLeDiff, Nat.reduceEqDiff, reduceCtorEq, Int.reduceToNat, Int.reduceLE, Int.reduceLT, Int.reduceBEq, Int.reduceBNe, mCall, cells_enc, cel3, k6]
    rw [loop_at hloop ?hb ?hs]
    case hb => rfl
    case hs => rfl
    cases hall : allB t.args.length (fun k => bareB (t.arg k))
    · simp -implicitDefEqProofs (disch := decide +kernel) only [go_sem, ↓reduceIte, Nat.reduceSub, Nat.reduceAdd, Nat.reduceMul, Nat.reduceBEq, Nat.reduceLT, Nat.reduceLeDiff, Nat.reduceEqDiff, reduceCtorEq, Int.reduceToNat, Int.reduceLE, Int.reduceLT, Int.reduceBEq, Int.reduceBNe, mCall, hall]
    · simp -implicitDefEqProofs (disch := decide +kernel) only [go_sem, ↓reduceIte, Nat.reduceSub, Nat.reduceAdd, Nat.reduceMul, Nat.reduceBEq, Nat.reduceLT, Nat.reduceLeDiff, Nat.reduceEqDiff, reduceCtorEq, Int.reduceToNat, Int.reduceLE, Int.reduceLT, Int.reduceBEq, Int.reduceBNe, mCall, hall]
  · cases hz : decide ((t.args.length : Int) > 0)
    · simp -implicitDefEqProofs (disch := decide +kernel) only [go_sem, ↓reduceIte, Nat.reduceSub, Nat.reduceAdd, Nat.reduceMul, Nat.reduceBEq, Nat.reduceLT, Nat.reduceLeDiff, Nat.reduceEqDiff, reduceCtorEq, Int.reduceToNat, Int.reduceLE, Int.reduceLT, Int.reduceBEq, Int.reduceBNe, mCall, cells_enc, cel3, k6, hz]
      rw [loop_at hloop ?hb ?hs]
      case hb => rfl
      case hs => rfl
      cases hall : allB t.args.length (fun k => bareB (t.arg k))
      · simp -implicitDefEqProofs (disch := decide +kernel) only [go_sem, ↓reduceIte, Nat.reduceSub, Nat.reduceAdd, Nat.reduceMul, Nat.reduceBEq, Nat.reduceLT, Nat.reduceLeDiff, Nat.reduceEqDiff, reduceCtorEq, Int.reduceToNat, Int.reduceLE, Int.reduceLT, Int.reduceBEq, Int.reduceBNe, mCall, hall]
      · simp -implicitDefEqProofs (disch := decide +kernel) only [go_sem, ↓reduceIte, Nat.reduceSub, Nat.reduceAdd, Nat.reduceMul, Nat.reduceBEq, Nat.reduceLT, Nat.reduceLeDiff, Nat.reduceEqDiff, reduceCtorEq, Int.reduceToNat, Int.reduceLE, Int.reduceLT, Int.reduceBEq, Int.reduceBNe, mCall, hall]
    · simp -implicitDefEqProofs (disch := decide +kernel) only [go_sem, ↓reduceIte, Nat.reduceSub, Nat.reduceAdd, Nat.reduceMul, Nat.reduceBEq, Nat.reduceLT, Nat.reduceLeDiff, Nat.reduceEqDiff, reduceCtorEq, Int.reduceToNat, Int.reduceLE, Int.reduceLT, Int.reduceBEq, Int.reduceBNe, mCall, cells_enc, cel3, k6, hz]
theorem lights_ok {l : List Tm} {s d : Int} (h : lightsB l s d = true) (hz : ∀ x ∈ l, x.size < room) : ThOk 1099511627776 l := by
  have hr : room = 1099511627776 := rfl
  obtain ⟨h1, h2⟩ := lights_parts h
  exact ⟨by decide, by decide, by omega, fun x hx => ⟨hz x hx, vle_low (light_low (h2 x hx))⟩⟩
theorem thOk_nil : ThOk 1099511627776 [] := ⟨by decide, by decide, by decide, by simp⟩
end Go.Proofs.Ytmemmdfjlhamfaa
