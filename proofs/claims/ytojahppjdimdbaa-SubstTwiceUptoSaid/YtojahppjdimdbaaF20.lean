/- The laws of layer 2. -/
import Derived.Test.YtojahppjdimdbaaF19
import Derived.Test.YtojahppjdimdbaaT0
set_option linter.unusedSimpArgs false
set_option linter.unusedVariables false
set_option maxRecDepth 100000
namespace Go.Proofs.Ytojahppjdimdbaa
open Go.Proofs
attribute [go_sem] List.head?_cons
def w1 : Tm := .mk 3 0 [.mk 4 1 []]
def w3 : Tm := .mk 3 0 [.mk 4 3 []]
theorem w1_up0 : upT w1 2 0 = w3 := by simp [w1, w3, upT, mapT, gUp, bnd, Tm.kind, Tm.args, List.range, List.range.loop]
theorem w1_up1 : upT w1 2 1 = w1 := by simp [w1, upT, mapT, gUp, bnd, Tm.kind, Tm.args, List.range, List.range.loop]
theorem w1_dn : dnB w1 1 0 = false := by simp [w1, dnB, canB, pDn, bnd, Tm.kind, Tm.args, allB]
theorem w1_size : w1.size = 2 := by simp [w1, Tm.size]
theorem w1_may : mayB w1 = true := by
  have : w1.depth = 2 := by simp [w1, Tm.depth]
  simp [mayB, w1_size, this]
  simp [w1, nodesB, allB, nodeOk, Tm.kind, Tm.head, Tm.args]
theorem w1_low : vlowB w1 = true := by simp [w1, vlowB, vleB, canB, allB, bnd, Tm.kind, Tm.args]
theorem v_enc (h : Int) : Dv.agg [.int .i64 4, .int .i64 h, .slc []] = enc (.mk 4 h []) := by rw [enc_mk]; rfl
theorem w1_enc : Dv.agg [.int .i64 3, .int .i64 0, .slc [enc (.mk 4 1 [])]] = enc w1 := by simp [w1, enc_mk, encs]
theorem w1_fold : Dv.agg [.int .i64 w1.kind, .int .i64 w1.head, .slc [enc (.mk 4 1 [])]] = enc w1 := w1_enc
theorem awake2_spec : (lim C).call 16 [] [] = retB true := by
  have hr : room = 1099511627776 := rfl
  have hs : w1.size < room := by rw [w1_size]; omega
  obtain ⟨x1, h1⟩ := sup_spec w1 hs w1_low 2 0
  obtain ⟨x2, h2⟩ := sup_spec w1 hs w1_low 2 1
  obtain ⟨x3, h3⟩ := sdn_spec w1 hs w1_low 1 0
  rw [show renB w1 2 0 = true from by simp [renB, w1_may], if_pos rfl, w1_up0] at h1
  rw [show renB w1 2 1 = true from by simp [renB, w1_may], if_pos rfl, w1_up1] at h2
  rw [w1_dn, Bool.and_false] at h3
  simp only [Bool.false_eq_true, if_false] at h3
  have a1 : encs w1.args = [enc (.mk 4 1 [])] := rfl
  have a3 : encs w3.args = [enc (.mk 4 3 [])] := rfl
  have e1 := v_enc 1
  have e0 : (((1 : Nat) : Int) == 1) = true := rfl
  rw [ev_fn 16 Try.f16 _ _ _ rfl Try.func16 rfl Try.ntmps16 rfl]
  simp -implicitDefEqProofs (disch := decide +kernel) only [go_sem, ↓reduceIte, Nat.reduceSub, Nat.reduceAdd, Nat.reduceMul, Nat.reduceBEq, Nat.reduceLT, Nat.reduceLeDiff, Nat.reduceEqDiff, reduceCtorEq, Int.reduceToNat, Int.reduceLE, Int.reduceLT, Int.reduceBEq, Int.reduceBNe, mCall, e0, e1, w1_enc, w1_fold, h1, h2, h3, a1, a3, mk_head, mk_kind, mk_args]
theorem light_low {t : Tm} {s d : Int} (h : lightB t s d = true) : lowB t = true := by
  unfold lightB at h
  simp only [Bool.and_eq_true] at h
  exact h.1.1
theorem shiftTells_holds (t : Tm) (w : Wf t) (hs : t.size ≤ 1048576) (b : Int) (jb : in64 b) (f : Int) (jf : in64 f) : ∃ h, (lim C).call 3 [dT t, dI b, dI f] [] = some (.ret (dB true), h) := by
  have hr : room = 1099511627776 := rfl
  have hs : t.size < room := by omega
  refine ⟨[], ?_⟩
  rw [ev_fn 3 Try.f3 _ _ _ rfl Try.func3 rfl Try.ntmps3 rfl]
  cases h1 : lightB t 9000 200
  · simp -implicitDefEqProofs (disch := decide +kernel) only [go_sem, ↓reduceIte, Nat.reduceSub, Nat.reduceAdd, Nat.reduceMul, Nat.reduceBEq, Nat.reduceLT, Nat.reduceLeDiff, Nat.reduceEqDiff, reduceCtorEq, Int.reduceToNat, Int.reduceLE, Int.reduceLT, Int.reduceBEq, Int.reduceBNe, mCall, awake2_spec, light_spec t _ _ hs, h1]
  · skip
    have hl := vlow_low (light_low h1)
    obtain ⟨x1, h2⟩ := sup_spec t hs hl b f
    obtain ⟨x2, h3⟩ := sdn_spec t hs hl b f
    have h4 := rUp_spec t hs hl b f
    have h5 := rDn_spec t hs hl b f
    have hu : (if renB t b f then upT t b f else t).size < room := by split <;> (try rw [mapT_size]) <;> exact hs
    have hd : (if renB t b f && dnB t b f then dnT t b f else zT).size < room := by
      split
      · rw [mapT_size]; exact hs
      · simp [zT, Tm.size, room]
    generalize (if renB t b f then upT t b f else t) = u at *
    generalize (if renB t b f && dnB t b f then dnT t b f else zT) = d at *
    generalize (renB t b f && dnB t b f) = r at *
    have h6 := rsame_spec u hu u
    have h7 := rsame_spec d hd d
    rw [sameB_refl] at h6 h7
    simp -implicitDefEqProofs (disch := decide +kernel) only [go_sem, ↓reduceIte, Nat.reduceSub, Nat.reduceAdd, Nat.reduceMul, Nat.reduceBEq, Nat.reduceLT, Nat.reduceLeDiff, Nat.reduceEqDiff, reduceCtorEq, Int.reduceToNat, Int.reduceLE, Int.reduceLT, Int.reduceBEq, Int.reduceBNe, mCall, awake2_spec, light_spec t _ _ hs, h1, h2, h3, h4, h5, h6, h7, tbool_4, beq_self_eq_true]
theorem calm_of {c : Int} (hc : c ≤ 4503599627370496) : ∀ (t : Tm) (n : Int), 0 ≤ n → n + t.size ≤ 4000000000000000000 → nodesB t = true → hleB c t = true → ∀ q ∈ pre t n, calm q := by
  refine Tm.ind fun t ih n h1 h2 hn hl => pre_ind ?_ fun i hi p hp => ?_
  · have h3 := node_head (node_here hn)
    rw [hleB_iff] at hl
    have h4 := hl.1
    intro hk
    show _ ∧ _
    constructor <;> simp only <;> omega
  · have h3 := size_arg (arg_mem hi)
    have h4 := bnd_le t i
    rw [hleB_iff] at hl
    exact ih _ (arg_mem hi) (n + bnd t i) (by omega) (by omega) (node_args hn i hi) (hl.2 i hi) p hp
theorem ren_of {t : Tm} {b f : Int} (hm : mayB t = true) (h1 : 0 ≤ b) (h2 : b ≤ 1048576) (h3 : 0 ≤ f) (h4 : f ≤ 1048576) : renB t b f = true := by
  simp [renB, hm, h1, h2, h3, h4]
theorem shiftBack_holds (t : Tm) (w : Wf t) (hs : t.size ≤ 1048576) (b : Int) (jb : in64 b) (m : Int) (jm : in64 m) (f : Int) (jf : in64 f) : ∃ h, (lim C).call 5 [dT t, dI b, dI m, dI f] [] = some (.ret (dB true), h) := by
  have hr : room = 1099511627776 := rfl
  have hs : t.size < room := by omega
  refine ⟨[], ?_⟩
  rw [ev_fn 5 Try.f5 _ _ _ rfl Try.func5 rfl Try.ntmps5 rfl]
  cases h1 : lightB t 9000 200
  · simp -implicitDefEqProofs (disch := decide +kernel) only [go_sem, ↓reduceIte, Nat.reduceSub, Nat.reduceAdd, Nat.reduceMul, Nat.reduceBEq, Nat.reduceLT, Nat.reduceLeDiff, Nat.reduceEqDiff, reduceCtorEq, Int.reduceToNat, Int.reduceLE, Int.reduceLT, Int.reduceBEq, Int.reduceBNe, mCall, awake2_spec, light_spec t _ _ hs, tMay_spec t hs, h1]
  · skip
    cases h2 : mayB t
    · simp -implicitDefEqProofs (disch := decide +kernel) only [go_sem, ↓reduceIte, Nat.reduceSub, Nat.reduceAdd, Nat.reduceMul, Nat.reduceBEq, Nat.reduceLT, Nat.reduceLeDiff, Nat.reduceEqDiff, reduceCtorEq, Int.reduceToNat, Int.reduceLE, Int.reduceLT, Int.reduceBEq, Int.reduceBNe, mCall, awake2_spec, light_spec t _ _ hs, tMay_spec t hs, h1, h2]
    · skip
      cases h3 : decide (b < 0)
      rotate_left
      · simp -implicitDefEqProofs (disch := decide +kernel) only [go_sem, ↓reduceIte, Nat.reduceSub, Nat.reduceAdd, Nat.reduceMul, Nat.reduceBEq, Nat.reduceLT, Nat.reduceLeDiff, Nat.reduceEqDiff, reduceCtorEq, Int.reduceToNat, Int.reduceLE, Int.reduceLT, Int.reduceBEq, Int.reduceBNe, mCall, awake2_spec, light_spec t _ _ hs, tMay_spec t hs, h1, h2, h3]
      cases h4 : decide (b > 1000)
      rotate_left
      · simp -implicitDefEqProofs (disch := decide +kernel) only [go_sem, ↓reduceIte, Nat.reduceSub, Nat.reduceAdd, Nat.reduceMul, Nat.reduceBEq, Nat.reduceLT, Nat.reduceLeDiff, Nat.reduceEqDiff, reduceCtorEq, Int.reduceToNat, Int.reduceLE, Int.reduceLT, Int.reduceBEq, Int.reduceBNe, mCall, awake2_spec, light_spec t _ _ hs, tMay_spec t hs, h1, h2, h3, h4]
      cases h5 : decide (m < 0)
      rotate_left
      · simp -implicitDefEqProofs (disch := decide +kernel) only [go_sem, ↓reduceIte, Nat.reduceSub, Nat.reduceAdd, Nat.reduceMul, Nat.reduceBEq, Nat.reduceLT, Nat.reduceLeDiff, Nat.reduceEqDiff, reduceCtorEq, Int.reduceToNat, Int.reduceLE, Int.reduceLT, Int.reduceBEq, Int.reduceBNe, mCall, awake2_spec, light_spec t _ _ hs, tMay_spec t hs, h1, h2, h3, h4, h5]
      cases h6 : decide (m > 1000)
      rotate_left
      · simp -implicitDefEqProofs (disch := decide +kernel) only [go_sem, ↓reduceIte, Nat.reduceSub, Nat.reduceAdd, Nat.reduceMul, Nat.reduceBEq, Nat.reduceLT, Nat.reduceLeDiff, Nat.reduceEqDiff, reduceCtorEq, Int.reduceToNat, Int.reduceLE, Int.reduceLT, Int.reduceBEq, Int.reduceBNe, mCall, awake2_spec, light_spec t _ _ hs, tMay_spec t hs, h1, h2, h3, h4, h5, h6]
      cases h7 : decide (f < 0)
      rotate_left
      · simp -implicitDefEqProofs (disch := decide +kernel) only [go_sem, ↓reduceIte, Nat.reduceSub, Nat.reduceAdd, Nat.reduceMul, Nat.reduceBEq, Nat.reduceLT, Nat.reduceLeDiff, Nat.reduceEqDiff, reduceCtorEq, Int.reduceToNat, Int.reduceLE, Int.reduceLT, Int.reduceBEq, Int.reduceBNe, mCall, awake2_spec, light_spec t _ _ hs, tMay_spec t hs, h1, h2, h3, h4, h5, h6, h7]
      cases h8 : decide (f > 1000)
      rotate_left
      · simp -implicitDefEqProofs (disch := decide +kernel) only [go_sem, ↓reduceIte, Nat.reduceSub, Nat.reduceAdd, Nat.reduceMul, Nat.reduceBEq, Nat.reduceLT, Nat.reduceLeDiff, Nat.reduceEqDiff, reduceCtorEq, Int.reduceToNat, Int.reduceLE, Int.reduceLT, Int.reduceBEq, Int.reduceBNe, mCall, awake2_spec, light_spec t _ _ hs, tMay_spec t hs, h1, h2, h3, h4, h5, h6, h7, h8]
      have g3 : 0 ≤ b := by simp at h3; omega
      have g4 : b ≤ 1000 := by simp at h4; omega
      have g5 : 0 ≤ m := by simp at h5; omega
      have g6 : m ≤ 1000 := by simp at h6; omega
      have g7 : 0 ≤ f := by simp at h7; omega
      have g8 : f ≤ 1000 := by simp at h8; omega
      have hl := hle_low t (light_low h1)
      have hu : vlowB (upT t b f) = true := vle_mono (by omega) (hle_vle (hle_up hl g3 f))
      have hsu : (upT t b f).size < room := by rw [mapT_size]; exact hs
      have hsc : (upT t (b + m) f).size < room := by rw [mapT_size]; exact hs
      obtain ⟨x1, k1⟩ := sup_spec t hs (vlow_low (light_low h1)) b f
      rw [if_pos (ren_of h2 g3 (by omega) g7 (by omega))] at k1
      obtain ⟨x2, k2⟩ := sdn_spec (upT t b f) hsu hu b f
      rw [ren_of (up_may h2 g3 f) g3 (by omega) g7 (by omega), dn_up_can t g3, Bool.and_self, if_pos rfl, dn_up t g3] at k2
      obtain ⟨x3, k3⟩ := sup_spec (upT t b f) hsu hu m f
      rw [if_pos (ren_of (up_may h2 g3 f) g5 (by omega) g7 (by omega)), up_up t g3] at k3
      obtain ⟨x4, k4⟩ := sup_spec t hs (vlow_low (light_low h1)) (b + m) f
      rw [if_pos (ren_of h2 (by omega) (by omega) g7 (by omega))] at k4
      obtain ⟨x5, k5⟩ := sup_spec t hs (vlow_low (light_low h1)) 0 f
      rw [if_pos (ren_of h2 (by omega) (by omega) g7 (by omega)), up_zero] at k5
      have k6 := tsame_spec t hs t
      have k7 := tsame_spec (upT t (b + m) f) hsc (upT t (b + m) f)
      rw [sameB_refl] at k6 k7
      have k8 := tsize_spec (upT t b f) hsu
      rw [mapT_size] at k8
      have hw : IntKind.wrap .i64 (b + m) = b + m := wrap_ok (by omega) (by omega)
      generalize upT t b f = u at *
      generalize upT t (b + m) f = c at *
      simp -implicitDefEqProofs (disch := decide +kernel) only [go_sem, ↓reduceIte, Nat.reduceSub, Nat.reduceAdd, Nat.reduceMul, Nat.reduceBEq, Nat.reduceLT, Nat.reduceLeDiff, Nat.reduceEqDiff, reduceCtorEq, Int.reduceToNat, Int.reduceLE, Int.reduceLT, Int.reduceBEq, Int.reduceBNe, mCall, awake2_spec, light_spec t _ _ hs, tMay_spec t hs, h1, h2, h3, h4, h5, h6, h7, h8, k1, k2, k3, k4, k5, k6, k7, k8, tsize_spec t hs, hw, beq_self_eq_true]
end Go.Proofs.Ytojahppjdimdbaa
