/- The laws of layer 2: ShiftScopes, ShiftFar, ShiftParts. -/
import Derived.Test.YtojahppjdimdbaaF20
set_option linter.unusedSimpArgs false
set_option linter.unusedVariables false
set_option maxRecDepth 100000
namespace Go.Proofs.Ytojahppjdimdbaa
open Go.Proofs
theorem shiftFar_holds (t : Tm) (w : Wf t) (hs : t.size ≤ 1048576) (b : Int) (jb : in64 b) (v : Int) (jv : in64 v) : ∃ h, (lim C).call 8 [dT t, dI b, dI v] [] = some (.ret (dB true), h) := by
  have hr : room = 1099511627776 := rfl
  have hs : t.size < room := by omega
  refine ⟨[], ?_⟩
  rw [ev_fn 8 Try.f8 _ _ _ rfl Try.func8 rfl Try.ntmps8 rfl]
  cases h1 : lightB t 3000 60
  · simp -implicitDefEqProofs (disch := decide +kernel) only [go_sem, ↓reduceIte, Nat.reduceSub, Nat.reduceAdd, Nat.reduceMul, Nat.reduceBEq, Nat.reduceLT, Nat.reduceLeDiff, Nat.reduceEqDiff, reduceCtorEq, Int.reduceToNat, Int.reduceLE, Int.reduceLT, Int.reduceBEq, Int.reduceBNe, mCall, awake2_spec, light_spec t _ _ hs, tMay_spec t hs, h1]
  · skip
    cases h2 : mayB t
    · simp -implicitDefEqProofs (disch := decide +kernel) only [go_sem, ↓reduceIte, Nat.reduceSub, Nat.reduceAdd, Nat.reduceMul, Nat.reduceBEq, Nat.reduceLT, Nat.reduceLeDiff, Nat.reduceEqDiff, reduceCtorEq, Int.reduceToNat, Int.reduceLE, Int.reduceLT, Int.reduceBEq, Int.reduceBNe, mCall, awake2_spec, light_spec t _ _ hs, tMay_spec t hs, h1, h2]
    · skip
      cases h3 : decide (b < 0)
      rotate_left
      · simp -implicitDefEqProofs (disch := decide +kernel) only [go_sem, ↓reduceIte, Nat.reduceSub, Nat.reduceAdd, Nat.reduceMul, Nat.reduceBEq, Nat.reduceLT, Nat.reduceLeDiff, Nat.reduceEqDiff, reduceCtorEq, Int.reduceToNat, Int.reduceLE, Int.reduceLT, Int.reduceBEq, Int.reduceBNe, mCall, awake2_spec, light_spec t _ _ hs, tMay_spec t hs, h1, h2, h3]
      cases h4 : decide (b > 1000)
      rotate_left
      · simp -implicitDefEqProofs (disch := decide +kernel) only [go_sem, ↓reduceIte, Nat.reduceSub, Nat.reduceAdd, Nat.reduceMul, Nat.reduceBEq, Nat.reduceLT, Nat.reduceLeDiff, Nat.reduceEqDiff, reduceCtorEq, Int.reduceToNat, Int.reduceLE, Int.reduceLT, Int.reduceBEq, Int.reduceBNe, mCall, awake2_spec, light_spec t _ _ hs, tMay_spec t hs, h1, h2, h3, h4]
      cases h5 : decide (v < 0)
      rotate_left
      · simp -implicitDefEqProofs (disch := decide +kernel) only [go_sem, ↓reduceIte, Nat.reduceSub, Nat.reduceAdd, Nat.reduceMul, Nat.reduceBEq, Nat.reduceLT, Nat.reduceLeDiff, Nat.reduceEqDiff, reduceCtorEq, Int.reduceToNat, Int.reduceLE, Int.reduceLT, Int.reduceBEq, Int.reduceBNe, mCall, awake2_spec, light_spec t _ _ hs, tMay_spec t hs, h1, h2, h3, h4, h5]
      cases h6 : decide (v > 1000)
      rotate_left
      · simp -implicitDefEqProofs (disch := decide +kernel) only [go_sem, ↓reduceIte, Nat.reduceSub, Nat.reduceAdd, Nat.reduceMul, Nat.reduceBEq, Nat.reduceLT, Nat.reduceLeDiff, Nat.reduceEqDiff, reduceCtorEq, Int.reduceToNat, Int.reduceLE, Int.reduceLT, Int.reduceBEq, Int.reduceBNe, mCall, awake2_spec, light_spec t _ _ hs, tMay_spec t hs, h1, h2, h3, h4, h5, h6]
      have g3 : 0 ≤ b := by simp at h3; omega
      have g4 : b ≤ 1000 := by simp at h4; omega
      have g5 : 0 ≤ v := by simp at h5; omega
      have g6 : v ≤ 1000 := by simp at h6; omega
      have hl := hle_low t (light_low h1)
      obtain ⟨x0, k0⟩ := tscoped_spec t v 1099511627776 hs (calm_of (by omega) t 0 (by omega) (by omega) (may_parts h2).1 hl)
      cases h7 : scopedB t v 1099511627776
      · rw [h7] at k0
        simp -implicitDefEqProofs (disch := decide +kernel) only [go_sem, ↓reduceIte, Nat.reduceSub, Nat.reduceAdd, Nat.reduceMul, Nat.reduceBEq, Nat.reduceLT, Nat.reduceLeDiff, Nat.reduceEqDiff, reduceCtorEq, Int.reduceToNat, Int.reduceLE, Int.reduceLT, Int.reduceBEq, Int.reduceBNe, mCall, awake2_spec, light_spec t _ _ hs, tMay_spec t hs, h1, h2, h3, h4, h5, h6, k0]
      · rw [h7] at k0
        obtain ⟨x1, k1⟩ := sup_spec t hs (vlow_low (light_low h1)) b v
        rw [if_pos (ren_of h2 g3 (by omega) g5 (by omega)), up_far h7] at k1
        obtain ⟨x2, k2⟩ := sdn_spec t hs (vlow_low (light_low h1)) b v
        rw [ren_of h2 g3 (by omega) g5 (by omega), dn_far_can h7, Bool.and_self, if_pos rfl, dn_far h7] at k2
        have k6 := tsame_spec t hs t
        rw [sameB_refl] at k6
        simp -implicitDefEqProofs (disch := decide +kernel) only [go_sem, ↓reduceIte, Nat.reduceSub, Nat.reduceAdd, Nat.reduceMul, Nat.reduceBEq, Nat.reduceLT, Nat.reduceLeDiff, Nat.reduceEqDiff, reduceCtorEq, Int.reduceToNat, Int.reduceLE, Int.reduceLT, Int.reduceBEq, Int.reduceBNe, mCall, awake2_spec, light_spec t _ _ hs, tMay_spec t hs, h1, h2, h3, h4, h5, h6, k0, k1, k2, k6]
theorem lam_map (g : Int → Int → Int) (t : Tm) (n : Int) : mapT g (.mk 3 0 [t]) n = .mk 3 0 [mapT g t (n + 1)] := by
  rw [mapT_eq]
  simp [mk_kind, mk_head, mk_args, Tm.arg, bnd, List.range, List.range.loop]
theorem lam_size (t : Tm) : (Tm.mk 3 0 [t]).size = t.size + 1 := by rw [mk_size]; simp; omega
theorem lam_depth (t : Tm) : (Tm.mk 3 0 [t]).depth = t.depth + 1 := by rw [depth_eq, mk_args]; simp; omega
theorem lam_nodes {t : Tm} (h : nodesB t = true) : nodesB (.mk 3 0 [t]) = true := by
  rw [nodesB_eq, mk_args]
  simp [allB, nodeOk, mk_kind, mk_head, mk_args, Tm.arg, h]
theorem lam_hle {c : Int} (hc : 0 ≤ c) {t : Tm} (h : hleB c t = true) : hleB c (.mk 3 0 [t]) = true := by
  rw [hleB_eq, mk_args]
  simp [allB, mk_head, mk_args, Tm.arg, h, hc]
theorem shiftParts_holds (t : Tm) (w : Wf t) (hs : t.size ≤ 1048576) (b : Int) (jb : in64 b) (f : Int) (jf : in64 f) : ∃ h, (lim C).call 6 [dT t, dI b, dI f] [] = some (.ret (dB true), h) := by
  have hr : room = 1099511627776 := rfl
  have hs : t.size < room := by omega
  refine ⟨[], ?_⟩
  rw [ev_fn 6 Try.f6 _ _ _ rfl Try.func6 rfl Try.ntmps6 rfl]
  cases h1 : lightB t 3000 50
  · simp -implicitDefEqProofs (disch := decide +kernel) only [go_sem, ↓reduceIte, Nat.reduceSub, Nat.reduceAdd, Nat.reduceMul, Nat.reduceBEq, Nat.reduceLT, Nat.reduceLeDiff, Nat.reduceEqDiff, reduceCtorEq, Int.reduceToNat, Int.reduceLE, Int.reduceLT, Int.reduceBEq, Int.reduceBNe, mCall, awake2_spec, light_spec t _ _ hs, tMay_spec t hs, h1]
  · skip
    cases h2 : mayB t
    · simp -implicitDefEqProofs (disch := decide +kernel) only [go_sem, ↓reduceIte, Nat.reduceSub, Nat.reduceAdd, Nat.reduceMul, Nat.reduceBEq, Nat.reduceLT, Nat.reduceLeDiff, Nat.reduceEqDiff, reduceCtorEq, Int.reduceToNat, Int.reduceLE, Int.reduceLT, Int.reduceBEq, Int.reduceBNe, mCall, awake2_spec, light_spec t _ _ hs, tMay_spec t hs, h1, h2]
    · skip
      cases h3 : decide (b < 0)
      rotate_left
      · simp -implicitDefEqProofs (disch := decide +kernel) only [go_sem, ↓reduceIte, Nat.reduceSub, Nat.reduceAdd, Nat.reduceMul, Nat.reduceBEq, Nat.reduceLT, Nat.reduceLeDiff, Nat.reduceEqDiff, reduceCtorEq, Int.reduceToNat, Int.reduceLE, Int.reduceLT, Int.reduceBEq, Int.reduceBNe, mCall, awake2_spec, light_spec t _ _ hs, tMay_spec t hs, h1, h2, h3]
      cases h4 : decide (b > 1000)
      rotate_left
      · simp -implicitDefEqProofs (disch := decide +kernel) only [go_sem, ↓reduceIte, Nat.reduceSub, Nat.reduceAdd, Nat.reduceMul, Nat.reduceBEq, Nat.reduceLT, Nat.reduceLeDiff, Nat.reduceEqDiff, reduceCtorEq, Int.reduceToNat, Int.reduceLE, Int.reduceLT, Int.reduceBEq, Int.reduceBNe, mCall, awake2_spec, light_spec t _ _ hs, tMay_spec t hs, h1, h2, h3, h4]
      cases h5 : decide (f < 0)
      rotate_left
      · simp -implicitDefEqProofs (disch := decide +kernel) only [go_sem, ↓reduceIte, Nat.reduceSub, Nat.reduceAdd, Nat.reduceMul, Nat.reduceBEq, Nat.reduceLT, Nat.reduceLeDiff, Nat.reduceEqDiff, reduceCtorEq, Int.reduceToNat, Int.reduceLE, Int.reduceLT, Int.reduceBEq, Int.reduceBNe, mCall, awake2_spec, light_spec t _ _ hs, tMay_spec t hs, h1, h2, h3, h4, h5]
      cases h6 : decide (f > 1000)
      rotate_left
      · simp -implicitDefEqProofs (disch := decide +kernel) only [go_sem, ↓reduceIte, Nat.reduceSub, Nat.reduceAdd, Nat.reduceMul, Nat.reduceBEq, Nat.reduceLT, Nat.reduceLeDiff, Nat.reduceEqDiff, reduceCtorEq, Int.reduceToNat, Int.reduceLE, Int.reduceLT, Int.reduceBEq, Int.reduceBNe, mCall, awake2_spec, light_spec t _ _ hs, tMay_spec t hs, h1, h2, h3, h4, h5, h6]
      have g3 : 0 ≤ b := by simp at h3; omega
      have g4 : b ≤ 1000 := by simp at h4; omega
      have g5 : 0 ≤ f := by simp at h5; omega
      have g6 : f ≤ 1000 := by simp at h6; omega
      have hl := hle_low t (light_low h1)
      have hsz : t.size ≤ 3000 ∧ t.depth ≤ 50 := by
        unfold lightB at h1
        simp only [Bool.and_eq_true, decide_eq_true_eq] at h1
        omega
      have hsl : (Tm.mk 3 0 [t]).size < room := by rw [lam_size]; omega
      have hml : mayB (.mk 3 0 [t]) = true := may_of (lam_nodes (may_parts h2).1) (by rw [lam_size]; omega) (by rw [lam_depth]; omega)
      have hlam : Dv.agg [.int .i64 3, .int .i64 0, .slc [enc t]] = enc (.mk 3 0 [t]) := by rw [enc_mk]; rfl
      obtain ⟨x1, k1⟩ := sup_spec (.mk 3 0 [t]) hsl (vle_mono (by omega) (hle_vle (lam_hle (by omega) hl))) b f
      rw [if_pos (ren_of hml g3 (by omega) g5 (by omega))] at k1
      unfold upT at k1
      rw [lam_map] at k1
      obtain ⟨x2, k2⟩ := sup_spec t hs (vlow_low (light_low h1)) b (f + 1)
      rw [if_pos (ren_of h2 g3 (by omega) (by omega) (by omega))] at k2
      have hsu : (upT t b (f + 1)).size < room := by rw [mapT_size]; exact hs
      have k6 := tsame_spec (upT t b (f + 1)) hsu (upT t b (f + 1))
      rw [sameB_refl] at k6
      have hw : IntKind.wrap .i64 (f + 1) = f + 1 := wrap_ok (by omega) (by omega)
      have e1 : decide ((t.size : Int) > 3998) = false := by simp; omega
      have e0 : (((1 : Nat) : Int) == 1) = true := rfl
      have a3 : encs (Tm.mk 3 0 [mapT (gUp b) t (f + 1)]).args = [enc (mapT (gUp b) t (f + 1))] := rfl
      have kd := mk_kind 3 0 [t]
      have hd := mk_head 3 0 [t]
      have ad : encs (Tm.mk 3 0 [t]).args = [enc t] := rfl
      unfold upT at k2 k6
      generalize mapT (gUp b) t (f + 1) = u at *
      have ku := mk_kind 3 0 [u]
      have hu := mk_head 3 0 [u]
      simp -implicitDefEqProofs (disch := decide +kernel) only [go_sem, ↓reduceIte, Nat.reduceSub, Nat.reduceAdd, Nat.reduceMul, Nat.reduceBEq, Nat.reduceLT, Nat.reduceLeDiff, Nat.reduceEqDiff, reduceCtorEq, Int.reduceToNat, Int.reduceLE, Int.reduceLT, Int.reduceBEq, Int.reduceBNe, mCall, awake2_spec, light_spec t _ _ hs, tMay_spec t hs, h1, h2, h3, h4, h5, h6, hlam, kd, hd, ad, k1, tsize_spec t hs, e1, a3, e0, k2, k6, hw]
set_option maxHeartbeats 1000000 in
theorem shiftScopes_holds (t : Tm) (w : Wf t) (hs : t.size ≤ 1048576) (b : Int) (jb : in64 b) (f : Int) (jf : in64 f) (v : Int) (jv : in64 v) : ∃ h, (lim C).call 7 [dT t, dI b, dI f, dI v] [] = some (.ret (dB true), h) := by
  have hr : room = 1099511627776 := rfl
  have hs : t.size < room := by omega
  refine ⟨[], ?_⟩
  rw [ev_fn 7 Try.f7 _ _ _ rfl Try.func7 rfl Try.ntmps7 rfl]
  cases h1 : lightB t 9000 200
  · simp -implicitDefEqProofs (disch := decide +kernel) only [go_sem, ↓reduceIte, Nat.reduceSub, Nat.reduceAdd, Nat.reduceMul, Nat.reduceBEq, Nat.reduceLT, Nat.reduceLeDiff, Nat.reduceEqDiff, reduceCtorEq, Int.reduceToNat, Int.reduceLE, Int.reduceLT, Int.reduceBEq, Int.reduceBNe, mCall, awake2_spec, light_spec t _ _ hs, tMay_spec t hs, h1]
  · skip
    cases h2 : mayB t
    · simp -implicitDefEqProofs (disch := decide +kernel) only [go_sem, ↓reduceIte, Nat.reduceSub, Nat.reduceAdd, Nat.reduceMul, Nat.reduceBEq, Nat.reduceLT, Nat.reduceLeDiff, Nat.reduceEqDiff, reduceCtorEq, Int.reduceToNat, Int.reduceLE, Int.reduceLT, Int.reduceBEq, Int.reduceBNe, mCall, awake2_spec, light_spec t _ _ hs, tMay_spec t hs, h1, h2]
    · skip
      cases h3 : decide (b < 0)
      rotate_left
      · simp -implicitDefEqProofs (disch := decide +kernel) only [go_sem, ↓reduceIte, Nat.reduceSub, Nat.reduceAdd, Nat.reduceMul, Nat.reduceBEq, Nat.reduceLT, Nat.reduceLeDiff, Nat.reduceEqDiff, reduceCtorEq, Int.reduceToNat, Int.reduceLE, Int.reduceLT, Int.reduceBEq, Int.reduceBNe, mCall, awake2_spec, light_spec t _ _ hs, tMay_spec t hs, h1, h2, h3]
      cases h4 : decide (b > 1000)
      rotate_left
      · simp -implicitDefEqProofs (disch := decide +kernel) only [go_sem, ↓reduceIte, Nat.reduceSub, Nat.reduceAdd, Nat.reduceMul, Nat.reduceBEq, Nat.reduceLT, Nat.reduceLeDiff, Nat.reduceEqDiff, reduceCtorEq, Int.reduceToNat, Int.reduceLE, Int.reduceLT, Int.reduceBEq, Int.reduceBNe, mCall, awake2_spec, light_spec t _ _ hs, tMay_spec t hs, h1, h2, h3, h4]
      cases h5 : decide (f < 0)
      rotate_left
      · simp -implicitDefEqProofs (disch := decide +kernel) only [go_sem, ↓reduceIte, Nat.reduceSub, Nat.reduceAdd, Nat.reduceMul, Nat.reduceBEq, Nat.reduceLT, Nat.reduceLeDiff, Nat.reduceEqDiff, reduceCtorEq, Int.reduceToNat, Int.reduceLE, Int.reduceLT, Int.reduceBEq, Int.reduceBNe, mCall, awake2_spec, light_spec t _ _ hs, tMay_spec t hs, h1, h2, h3, h4, h5]
      cases h6 : decide (f > v)
      rotate_left
      · simp -implicitDefEqProofs (disch := decide +kernel) only [go_sem, ↓reduceIte, Nat.reduceSub, Nat.reduceAdd, Nat.reduceMul, Nat.reduceBEq, Nat.reduceLT, Nat.reduceLeDiff, Nat.reduceEqDiff, reduceCtorEq, Int.reduceToNat, Int.reduceLE, Int.reduceLT, Int.reduceBEq, Int.reduceBNe, mCall, awake2_spec, light_spec t _ _ hs, tMay_spec t hs, h1, h2, h3, h4, h5, h6]
      cases h7 : decide (v > 1000)
      rotate_left
      · simp -implicitDefEqProofs (disch := decide +kernel) only [go_sem, ↓reduceIte, Nat.reduceSub, Nat.reduceAdd, Nat.reduceMul, Nat.reduceBEq, Nat.reduceLT, Nat.reduceLeDiff, Nat.reduceEqDiff, reduceCtorEq, Int.reduceToNat, Int.reduceLE, Int.reduceLT, Int.reduceBEq, Int.reduceBNe, mCall, awake2_spec, light_spec t _ _ hs, tMay_spec t hs, h1, h2, h3, h4, h5, h6, h7]
      have g3 : 0 ≤ b := by simp at h3; omega
      have g4 : b ≤ 1000 := by simp at h4; omega
      have g5 : 0 ≤ f := by simp at h5; omega
      have g6 : f ≤ v := by simp at h6; omega
      have g7 : v ≤ 1000 := by simp at h7; omega
      have hl := hle_low t (light_low h1)
      have hn := (may_parts h2).1
      obtain ⟨x0, k0⟩ := tscoped_spec t v 1099511627776 hs (calm_of (by omega) t 0 (by omega) (by omega) hn hl)
      cases h8 : scopedB t v 1099511627776
      · rw [h8] at k0
        simp -implicitDefEqProofs (disch := decide +kernel) only [go_sem, ↓reduceIte, Nat.reduceSub, Nat.reduceAdd, Nat.reduceMul, Nat.reduceBEq, Nat.reduceLT, Nat.reduceLeDiff, Nat.reduceEqDiff, reduceCtorEq, Int.reduceToNat, Int.reduceLE, Int.reduceLT, Int.reduceBEq, Int.reduceBNe, mCall, awake2_spec, light_spec t _ _ hs, tMay_spec t hs, h1, h2, h3, h4, h5, h6, h7, k0]
      · rw [h8] at k0
        have hlu := hle_up hl g3 f
        have hmu := up_may h2 g3 f
        have hsu : (upT t b f).size < room := by rw [mapT_size]; exact hs
        have hr2 := ren_of h2 g3 (by omega) g5 (show f ≤ 1048576 by omega)
        obtain ⟨x1, k1⟩ := sup_spec t hs (vlow_low (light_low h1)) b f
        rw [if_pos hr2] at k1
        obtain ⟨x2, k2⟩ := sdn_spec (upT t b f) hsu (vle_mono (by omega) (hle_vle hlu)) b f
        rw [ren_of hmu g3 (by omega) g5 (by omega), dn_up_can t g3, Bool.and_self, if_pos rfl, dn_up t g3] at k2
        obtain ⟨x3, k3⟩ := sdn_spec t hs (vlow_low (light_low h1)) b f
        rw [hr2, Bool.true_and] at k3
        obtain ⟨x4, k4⟩ := tscoped_spec (upT t b f) (v + b) 1099511627776 hsu (calm_of (c := 1099511627776 + b) (by omega) _ 0 (by omega) (by omega) (may_parts hmu).1 hlu)
        rw [up_scoped h8 g3] at k4
        have k6 := tsame_spec t hs t
        rw [sameB_refl] at k6
        have hw1 : IntKind.wrap .i64 (v - b) = v - b := wrap_ok (by omega) (by omega)
        have hw2 : IntKind.wrap .i64 (v + b) = v + b := wrap_ok (by omega) (by omega)
        cases h9 : dnB t b f
        · rw [h9] at k3
          simp only [Bool.false_eq_true, if_false] at k3
          generalize upT t b f = u at *
          cases h10 : decide (v - b < f)
          · simp -implicitDefEqProofs (disch := decide +kernel) only [go_sem, ↓reduceIte, Nat.reduceSub, Nat.reduceAdd, Nat.reduceMul, Nat.reduceBEq, Nat.reduceLT, Nat.reduceLeDiff, Nat.reduceEqDiff, reduceCtorEq, Int.reduceToNat, Int.reduceLE, Int.reduceLT, Int.reduceBEq, Int.reduceBNe, mCall, awake2_spec, light_spec t _ _ hs, tMay_spec t hs, h1, h2, h3, h4, h5, h6, h7, k0, k1, k2, k3, k4, k6, hw1, hw2, h10]
          · simp -implicitDefEqProofs (disch := decide +kernel) only [go_sem, ↓reduceIte, Nat.reduceSub, Nat.reduceAdd, Nat.reduceMul, Nat.reduceBEq, Nat.reduceLT, Nat.reduceLeDiff, Nat.reduceEqDiff, reduceCtorEq, Int.reduceToNat, Int.reduceLE, Int.reduceLT, Int.reduceBEq, Int.reduceBNe, mCall, awake2_spec, light_spec t _ _ hs, tMay_spec t hs, h1, h2, h3, h4, h5, h6, h7, k0, k1, k2, k3, k4, k6, hw1, hw2, h10]
        · rw [h9, if_pos rfl] at k3
          have hsd : (dnT t b f).size < room := by rw [mapT_size]; exact hs
          have hcd := calm_of (c := 1099511627776) (by omega) (dnT t b f) 0 (by omega) (by rw [mapT_size]; omega) (dn_nodes hn g3 g5 h9) (hle_dn hl g3 f)
          cases h10 : decide (v - b < f)
          · obtain ⟨x5, k5⟩ := tscoped_spec (dnT t b f) (v - b) 1099511627776 hsd hcd
            rw [dn_scoped h8 h9 (by omega) (by simp at h10; omega)] at k5
            generalize upT t b f = u at *
            generalize dnT t b f = c at *
            simp -implicitDefEqProofs (disch := decide +kernel) only [go_sem, ↓reduceIte, Nat.reduceSub, Nat.reduceAdd, Nat.reduceMul, Nat.reduceBEq, Nat.reduceLT, Nat.reduceLeDiff, Nat.reduceEqDiff, reduceCtorEq, Int.reduceToNat, Int.reduceLE, Int.reduceLT, Int.reduceBEq, Int.reduceBNe, mCall, awake2_spec, light_spec t _ _ hs, tMay_spec t hs, h1, h2, h3, h4, h5, h6, h7, k0, k1, k2, k3, k4, k5, k6, hw1, hw2, h10]
          · obtain ⟨x5, k5⟩ := tscoped_spec (dnT t b f) f 1099511627776 hsd hcd
            rw [dn_scoped h8 h9 (by simp at h10; omega) (by omega)] at k5
            generalize upT t b f = u at *
            generalize dnT t b f = c at *
            simp -implicitDefEqProofs (disch := decide +kernel) only [go_sem, ↓reduceIte, Nat.reduceSub, Nat.reduceAdd, Nat.reduceMul, Nat.reduceBEq, Nat.reduceLT, Nat.reduceLeDiff, Nat.reduceEqDiff, reduceCtorEq, Int.reduceToNat, Int.reduceLE, Int.reduceLT, Int.reduceBEq, Int.reduceBNe, mCall, awake2_spec, light_spec t _ _ hs, tMay_spec t hs, h1, h2, h3, h4, h5, h6, h7, k0, k1, k2, k3, k4, k5, k6, hw1, hw2, h10]
end Go.Proofs.Ytojahppjdimdbaa
