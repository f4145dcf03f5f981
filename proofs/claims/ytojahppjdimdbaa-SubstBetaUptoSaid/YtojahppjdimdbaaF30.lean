/- Law of layer 3: SubstBeta. -/
import Derived.Test.YtojahppjdimdbaaF2B
set_option linter.unusedSimpArgs false
set_option linter.unusedVariables false
set_option maxRecDepth 100000
namespace Go.Proofs.Ytojahppjdimdbaa
open Go.Proofs
def lamT (t : Tm) : Tm := .mk 3 0 [t]
theorem lamT_nodes {t : Tm} (h : nodesB t = true) : nodesB (lamT t) = true :=
  nodes_mk (by simp [nodeOk, mk_kind, mk_head, mk_args]) (by simpa using h)
theorem lamT_size (t : Tm) : (lamT t).size = t.size + 1 := by unfold lamT; rw [mk_size]; simp; omega
theorem lamT_depth (t : Tm) : (lamT t).depth = t.depth + 1 := by unfold lamT; rw [depth_eq, mk_args]; simp; omega
theorem lamT_vle {c : Int} {t : Tm} (h : vleB c t = true) : vleB c (lamT t) = true := vle_mk (fun h => by omega) (by simpa using h)
theorem R.bind_id {α : Type} (r : R α) : (r.bind fun v m => R.ok v m) = r := by cases r <;> rfl
theorem spn_beta (f : Nat) {t x : Tm} (hx : mayB x = true) (l : List Tm) (n : Nat) : spnA (ap f) (lamT t) (x :: l) n = (ap f t ⟨[x], 0⟩ n).bind fun v m => spnA (ap f) v l m := by
  simp only [spnA, show (lamT t).kind = 3 from rfl, if_true, hx, show (lamT t).arg 0 = t from rfl]
theorem spine_beta {t x : Tm} (ht : mayB t = true) (hl : mayB (lamT t) = true) (hx : mayB x = true) : spineR (lamT t) [x] = applyR t ⟨[x], 0⟩ := by
  have h1 : maysB [x] = true := maysB_iff.2 (by simpa using hx)
  have h2 : smayB ⟨[x], 0⟩ = true := smay_of (by simp) (by simp) (by simp) (by simpa using hx)
  unfold spineR applyR
  rw [hl, h1, ht, h2]
  simp only [Bool.and_self, if_true]
  rw [spn_beta _ hx, show (fun v m => spnA (ap 40000) v [] m) = fun v m => R.ok v m from rfl, R.bind_id]
/-- What SubstBeta says of its answers. -/
theorem beta_plain {t x y : Tm} (ht : mayB t = true) (hl : mayB (lamT t) = true) (hx : mayB x = true) (hy : mayB y = true) :
    (applyR t ⟨[x], 0⟩).2 ≠ 0 ∨ (spineR (lamT t) [x, y]).2 = 4 ∨ spineR (lamT t) [x, y] = spineR (applyR t ⟨[x], 0⟩).1 [y] := by
  have h1 : maysB [x, y] = true := maysB_iff.2 (by simp [hx, hy])
  have h3 : maysB [y] = true := maysB_iff.2 (by simpa using hy)
  have h2 : smayB ⟨[x], 0⟩ = true := smay_of (by simp) (by simp) (by simp) (by simpa using hx)
  have e1 : spineR (lamT t) [x, y] = outD ((ap 40000 t ⟨[x], 0⟩ 0).bind fun v m => spnA (ap 40000) v [y] m) := by
    unfold spineR
    rw [hl, h1]
    simp only [Bool.and_self, if_true]
    rw [spn_beta _ hx]
  have e2 : applyR t ⟨[x], 0⟩ = outD (ap 40000 t ⟨[x], 0⟩ 0) := by
    unfold applyR
    rw [ht, h2]
    simp only [Bool.and_self, if_true]
  rw [e1, e2]
  cases hap : ap 40000 t ⟨[x], 0⟩ 0 with
  | er e m =>
    left
    have := ap_err _ _ _ _ _ _ hap
    simp only [outD]
    omega
  | ok v m =>
    cases hm : mayB v
    · left; simp [outD, hm]
    · right
      have hsp : spineR (outD (.ok v m)).1 [y] = outD (spnA (ap 40000) v [y] 0) := by
        have : (outD (.ok v m)).1 = v := by simp [outD, hm]
        rw [this]
        unfold spineR
        rw [hm, h3]
        simp only [Bool.and_self, if_true]
      rw [hsp, R.bind_ok]
      have := spn_later (A := ap 40000) (d := m) (fun t s n => ap_later m 40000 t s n) [y] v 0
      rw [Nat.zero_add] at this
      rcases this with ⟨k, h⟩ | ⟨u, k, h, h'⟩ | ⟨e, k, h, h'⟩
      · left; rw [h]; rfl
      · right; rw [h, h']; simp only [outD]
      · right; rw [h, h']; simp only [outD]
set_option maxHeartbeats 4000000 in
theorem substBeta_holds (t : Tm) (w : Wf t) (hs : t.size ≤ 1048576) (x : Tm) (wx : Wf x) (hx : x.size ≤ 1048576) (y : Tm) (wy : Wf y) (hy : y.size ≤ 1048576) :
    ∃ h, (lim C).call 15 [dT t, dT x, dT y] [] = some (.ret (dB true), h) := by
  have hr : room = 1099511627776 := rfl
  have hs : t.size < room := by omega
  have hx : x.size < room := by omega
  have hy : y.size < room := by omega
  refine ⟨[], ?_⟩
  rw [ev_fn 15 Try.f15 _ _ _ rfl Try.func15 rfl Try.ntmps15 rfl]
  simp -implicitDefEqProofs (disch := decide +kernel) only [go_sem, ↓reduceIte, Nat.reduceSub, Nat.reduceAdd, Nat.reduceMul, Nat.reduceBEq, Nat.reduceLT, Nat.reduceLeDiff, Nat.reduceEqDiff, reduceCtorEq, Int.reduceToNat, Int.reduceLE, Int.reduceLT, Int.reduceBEq, Int.reduceBNe, mCall, awake3_spec, light_spec t _ _ hs, light_spec x _ _ hx, light_spec y _ _ hy, tMay_spec t hs, tMay_spec x hx, tMay_spec y hy, cells_enc, cel3, (enc_eq t).symm, (enc_eq x).symm, (enc_eq y).symm]
  cases h1 : lightB t 300 50
  · simp -implicitDefEqProofs (disch := decide +kernel) only [go_sem, ↓reduceIte, Nat.reduceSub, Nat.reduceAdd, Nat.reduceMul, Nat.reduceBEq, Nat.reduceLT, Nat.reduceLeDiff, Nat.reduceEqDiff, reduceCtorEq, Int.reduceToNat, Int.reduceLE, Int.reduceLT, Int.reduceBEq, Int.reduceBNe, mCall, awake3_spec, light_spec t _ _ hs, light_spec x _ _ hx, light_spec y _ _ hy, tMay_spec t hs, tMay_spec x hx, tMay_spec y hy, cells_enc, cel3, (enc_eq t).symm, (enc_eq x).symm, (enc_eq y).symm, h1]
  · skip
    simp -implicitDefEqProofs (disch := decide +kernel) only [go_sem, ↓reduceIte, Nat.reduceSub, Nat.reduceAdd, Nat.reduceMul, Nat.reduceBEq, Nat.reduceLT, Nat.reduceLeDiff, Nat.reduceEqDiff, reduceCtorEq, Int.reduceToNat, Int.reduceLE, Int.reduceLT, Int.reduceBEq, Int.reduceBNe, mCall, awake3_spec, light_spec t _ _ hs, light_spec x _ _ hx, light_spec y _ _ hy, tMay_spec t hs, tMay_spec x hx, tMay_spec y hy, cells_enc, cel3, (enc_eq t).symm, (enc_eq x).symm, (enc_eq y).symm, h1]
    cases h2 : lightB x 300 60
    · simp -implicitDefEqProofs (disch := decide +kernel) only [go_sem, ↓reduceIte, Nat.reduceSub, Nat.reduceAdd, Nat.reduceMul, Nat.reduceBEq, Nat.reduceLT, Nat.reduceLeDiff, Nat.reduceEqDiff, reduceCtorEq, Int.reduceToNat, Int.reduceLE, Int.reduceLT, Int.reduceBEq, Int.reduceBNe, mCall, awake3_spec, light_spec t _ _ hs, light_spec x _ _ hx, light_spec y _ _ hy, tMay_spec t hs, tMay_spec x hx, tMay_spec y hy, cells_enc, cel3, (enc_eq t).symm, (enc_eq x).symm, (enc_eq y).symm, h2]
    · skip
      simp -implicitDefEqProofs (disch := decide +kernel) only [go_sem, ↓reduceIte, Nat.reduceSub, Nat.reduceAdd, Nat.reduceMul, Nat.reduceBEq, Nat.reduceLT, Nat.reduceLeDiff, Nat.reduceEqDiff, reduceCtorEq, Int.reduceToNat, Int.reduceLE, Int.reduceLT, Int.reduceBEq, Int.reduceBNe, mCall, awake3_spec, light_spec t _ _ hs, light_spec x _ _ hx, light_spec y _ _ hy, tMay_spec t hs, tMay_spec x hx, tMay_spec y hy, cells_enc, cel3, (enc_eq t).symm, (enc_eq x).symm, (enc_eq y).symm, h2]
      cases h3 : lightB y 300 60
      · simp -implicitDefEqProofs (disch := decide +kernel) only [go_sem, ↓reduceIte, Nat.reduceSub, Nat.reduceAdd, Nat.reduceMul, Nat.reduceBEq, Nat.reduceLT, Nat.reduceLeDiff, Nat.reduceEqDiff, reduceCtorEq, Int.reduceToNat, Int.reduceLE, Int.reduceLT, Int.reduceBEq, Int.reduceBNe, mCall, awake3_spec, light_spec t _ _ hs, light_spec x _ _ hx, light_spec y _ _ hy, tMay_spec t hs, tMay_spec x hx, tMay_spec y hy, cells_enc, cel3, (enc_eq t).symm, (enc_eq x).symm, (enc_eq y).symm, h3]
      · skip
        simp -implicitDefEqProofs (disch := decide +kernel) only [go_sem, ↓reduceIte, Nat.reduceSub, Nat.reduceAdd, Nat.reduceMul, Nat.reduceBEq, Nat.reduceLT, Nat.reduceLeDiff, Nat.reduceEqDiff, reduceCtorEq, Int.reduceToNat, Int.reduceLE, Int.reduceLT, Int.reduceBEq, Int.reduceBNe, mCall, awake3_spec, light_spec t _ _ hs, light_spec x _ _ hx, light_spec y _ _ hy, tMay_spec t hs, tMay_spec x hx, tMay_spec y hy, cells_enc, cel3, (enc_eq t).symm, (enc_eq x).symm, (enc_eq y).symm, h3]
        cases h4 : mayB t
        · simp -implicitDefEqProofs (disch := decide +kernel) only [go_sem, ↓reduceIte, Nat.reduceSub, Nat.reduceAdd, Nat.reduceMul, Nat.reduceBEq, Nat.reduceLT, Nat.reduceLeDiff, Nat.reduceEqDiff, reduceCtorEq, Int.reduceToNat, Int.reduceLE, Int.reduceLT, Int.reduceBEq, Int.reduceBNe, mCall, awake3_spec, light_spec t _ _ hs, light_spec x _ _ hx, light_spec y _ _ hy, tMay_spec t hs, tMay_spec x hx, tMay_spec y hy, cells_enc, cel3, (enc_eq t).symm, (enc_eq x).symm, (enc_eq y).symm, h4]
        · skip
          simp -implicitDefEqProofs (disch := decide +kernel) only [go_sem, ↓reduceIte, Nat.reduceSub, Nat.reduceAdd, Nat.reduceMul, Nat.reduceBEq, Nat.reduceLT, Nat.reduceLeDiff, Nat.reduceEqDiff, reduceCtorEq, Int.reduceToNat, Int.reduceLE, Int.reduceLT, Int.reduceBEq, Int.reduceBNe, mCall, awake3_spec, light_spec t _ _ hs, light_spec x _ _ hx, light_spec y _ _ hy, tMay_spec t hs, tMay_spec x hx, tMay_spec y hy, cells_enc, cel3, (enc_eq t).symm, (enc_eq x).symm, (enc_eq y).symm, h4]
          cases h5 : mayB x
          · simp -implicitDefEqProofs (disch := decide +kernel) only [go_sem, ↓reduceIte, Nat.reduceSub, Nat.reduceAdd, Nat.reduceMul, Nat.reduceBEq, Nat.reduceLT, Nat.reduceLeDiff, Nat.reduceEqDiff, reduceCtorEq, Int.reduceToNat, Int.reduceLE, Int.reduceLT, Int.reduceBEq, Int.reduceBNe, mCall, awake3_spec, light_spec t _ _ hs, light_spec x _ _ hx, light_spec y _ _ hy, tMay_spec t hs, tMay_spec x hx, tMay_spec y hy, cells_enc, cel3, (enc_eq t).symm, (enc_eq x).symm, (enc_eq y).symm, h5]
          · skip
            simp -implicitDefEqProofs (disch := decide +kernel) only [go_sem, ↓reduceIte, Nat.reduceSub, Nat.reduceAdd, Nat.reduceMul, Nat.reduceBEq, Nat.reduceLT, Nat.reduceLeDiff, Nat.reduceEqDiff, reduceCtorEq, Int.reduceToNat, Int.reduceLE, Int.reduceLT, Int.reduceBEq, Int.reduceBNe, mCall, awake3_spec, light_spec t _ _ hs, light_spec x _ _ hx, light_spec y _ _ hy, tMay_spec t hs, tMay_spec x hx, tMay_spec y hy, cells_enc, cel3, (enc_eq t).symm, (enc_eq x).symm, (enc_eq y).symm, h5]
            cases h6 : mayB y
            · simp -implicitDefEqProofs (disch := decide +kernel) only [go_sem, ↓reduceIte, Nat.reduceSub, Nat.reduceAdd, Nat.reduceMul, Nat.reduceBEq, Nat.reduceLT, Nat.reduceLeDiff, Nat.reduceEqDiff, reduceCtorEq, Int.reduceToNat, Int.reduceLE, Int.reduceLT, Int.reduceBEq, Int.reduceBNe, mCall, awake3_spec, light_spec t _ _ hs, light_spec x _ _ hx, light_spec y _ _ hy, tMay_spec t hs, tMay_spec x hx, tMay_spec y hy, cells_enc, cel3, (enc_eq t).symm, (enc_eq x).symm, (enc_eq y).symm, h6]
            · skip
              simp -implicitDefEqProofs (disch := decide +kernel) only [go_sem, ↓reduceIte, Nat.reduceSub, Nat.reduceAdd, Nat.reduceMul, Nat.reduceBEq, Nat.reduceLT, Nat.reduceLeDiff, Nat.reduceEqDiff, reduceCtorEq, Int.reduceToNat, Int.reduceLE, Int.reduceLT, Int.reduceBEq, Int.reduceBNe, mCall, awake3_spec, light_spec t _ _ hs, light_spec x _ _ hx, light_spec y _ _ hy, tMay_spec t hs, tMay_spec x hx, tMay_spec y hy, cells_enc, cel3, (enc_eq t).symm, (enc_eq x).symm, (enc_eq y).symm, h6]
              obtain ⟨z1, z2⟩ := light_size h1
              obtain ⟨z3, z4⟩ := light_size h2
              obtain ⟨z5, z6⟩ := light_size h3
              have hv := vle_low (light_low h1)
              have hvx := vle_low (light_low h2)
              have hvy := vle_low (light_low h3)
              have hml : mayB (lamT t) = true := may_of (lamT_nodes (may_parts h4).1) (by rw [lamT_size]; omega) (by rw [lamT_depth]; omega)
              have hlam : Dv.agg [.int .i64 3, .int .i64 0, .slc [enc t]] = enc (lamT t) := by unfold lamT; rw [enc_mk]; rfl
              obtain ⟨x1, a1⟩ := sspine_spec (lamT t) [x] (by rw [lamT_size]; simp; omega) (vle_mono (by decide) (lamT_vle hv)) (by simpa using vle_mono (by decide) hvx)
              obtain ⟨x2, a2⟩ := sapply_spec t ⟨[x], 0⟩ hs (by simpa using hx) (by simp; omega) (vle_mono (by decide) hv) (by simpa using vle_mono (by decide) hvx)
              obtain ⟨x3, a3⟩ := sspine_spec (lamT t) [x, y] (by rw [lamT_size]; simp; omega) (vle_mono (by decide) (lamT_vle hv)) (by simp; exact ⟨vle_mono (by decide) hvx, vle_mono (by decide) hvy⟩)
              have hbm := applyR_may t ⟨[x], 0⟩
              have hbv := applyR_vle (t := t) (s := ⟨[x], 0⟩) (K := 1099511627776) (by omega) hv (by simpa using hvx)
              have hbs := (may_parts hbm).2.1
              obtain ⟨x4, a4⟩ := sspine_spec (applyR t ⟨[x], 0⟩).1 [y] (by simp; omega) (vle_mono (by decide) hbv) (by simpa using vle_mono (by decide) hvy)
              have hp := beta_plain h4 hml h5 h6
              rw [spine_beta h4 hml h5] at a1
              have s1 := tsame_spec (applyR t ⟨[x], 0⟩).1 (by omega) (applyR t ⟨[x], 0⟩).1
              rw [sameB_refl] at s1
              have hcm := spineR_may (lamT t) [x, y]
              have s2 := tsame_spec (spineR (lamT t) [x, y]).1 (by have := (may_parts hcm).2.1; omega) (spineR (applyR t ⟨[x], 0⟩).1 [y]).1
              have a1 : (lim C).call 30 [dT (lamT t), .d (.slc [enc x])] [] = _ := a1
              have a3 : (lim C).call 30 [dT (lamT t), .d (.slc [enc x, enc y])] [] = _ := a3
              have a4 : (lim C).call 30 [dT (applyR t ⟨[x], 0⟩).1, .d (.slc [enc y])] [] = _ := a4
              have hes : Dv.agg [.slc [enc x], .int .i64 0] = encS ⟨[x], 0⟩ := rfl
              generalize hb : applyR t ⟨[x], 0⟩ = rb at *
              generalize hc : spineR (lamT t) [x, y] = rc at *
              generalize hd : spineR rb.1 [y] = rd at *
              have q0 : (rb.2 != rb.2) = false := by simp
              cases q1 : (rb.2 != 0)
              · cases q2 : (rc.2 == 4)
                · have hcd : rc = rd := by
                    rcases hp with h | h | h
                    · simp at q1; exact absurd q1 h
                    · simp at q2; exact absurd h q2
                    · exact h
                  subst hcd
                  have q3 : (rc.2 == rc.2) = true := by simp
                  rw [sameB_refl] at s2
                  simp -implicitDefEqProofs (disch := decide +kernel) only [go_sem, ↓reduceIte, Nat.reduceSub, Nat.reduceAdd, Nat.reduceMul, Nat.reduceBEq, Nat.reduceLT, Nat.reduceLeDiff, Nat.reduceEqDiff, reduceCtorEq, Int.reduceToNat, Int.reduceLE, Int.reduceLT, Int.reduceBEq, Int.reduceBNe, mCall, cells_enc, cel3, (enc_eq t).symm, (enc_eq x).symm, (enc_eq y).symm, (enc_eq (lamT t)).symm, (enc_eq rb.1).symm, (enc_eq rc.1).symm, hlam, hes, a1, a2, a3, a4, s1, s2, q0, q1, q2, q3]
                · simp -implicitDefEqProofs (disch := decide +kernel) only [go_sem, ↓reduceIte, Nat.reduceSub, Nat.reduceAdd, Nat.reduceMul, Nat.reduceBEq, Nat.reduceLT, Nat.reduceLeDiff, Nat.reduceEqDiff, reduceCtorEq, Int.reduceToNat, Int.reduceLE, Int.reduceLT, Int.reduceBEq, Int.reduceBNe, mCall, cells_enc, cel3, (enc_eq t).symm, (enc_eq x).symm, (enc_eq y).symm, (enc_eq (lamT t)).symm, (enc_eq rb.1).symm, (enc_eq rc.1).symm, (enc_eq rd.1).symm, hlam, hes, a1, a2, a3, a4, s1, s2, q0, q1, q2]
              · simp -implicitDefEqProofs (disch := decide +kernel) only [go_sem, ↓reduceIte, Nat.reduceSub, Nat.reduceAdd, Nat.reduceMul, Nat.reduceBEq, Nat.reduceLT, Nat.reduceLeDiff, Nat.reduceEqDiff, reduceCtorEq, Int.reduceToNat, Int.reduceLE, Int.reduceLT, Int.reduceBEq, Int.reduceBNe, mCall, cells_enc, cel3, (enc_eq t).symm, (enc_eq x).symm, (enc_eq y).symm, (enc_eq (lamT t)).symm, (enc_eq rb.1).symm, (enc_eq rc.1).symm, (enc_eq rd.1).symm, hlam, hes, a1, a2, a3, a4, s1, s2, q0, q1]
end Go.Proofs.Ytojahppjdimdbaa
