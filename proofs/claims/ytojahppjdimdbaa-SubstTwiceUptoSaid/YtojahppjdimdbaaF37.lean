/- Law of layer 3: SubstTwice. -/
import Derived.Test.YtojahppjdimdbaaF2B
import Derived.Test.YtojahppjdimdbaaP8
set_option linter.unusedSimpArgs false
set_option linter.unusedVariables false
set_option maxRecDepth 100000
namespace Go.Proofs.Ytojahppjdimdbaa
open Go.Proofs
theorem reduced_spec : ∀ t : Tm, nodesB t = true → t.size < room → (lim C).call 37 [dT t] [] = retB true := by
  refine Tm.ind fun t ih hn hs => ?_
  have hr : room = 1099511627776 := rfl
  have hl := len_size t
  have hloop : (lim C).code 37 (.loop (cf (cf (cs (cf (cs (cs (bodyOf Try.f37)))))))) (mk 29 [(1, .lref 1 0), (3, dI (0 : Nat))] [(1, cel3 t)] [] []) = some (.exit 0, mk 29 [(1, .lref 1 0), (3, dI t.args.length), (18, dB false)] [(1, cel3 t)] [] []) := by
    refine loop_run (fun i => mk 29 [(1, .lref 1 0), (3, dI i)] [(1, cel3 t)] [] []) t.args.length (fun i hi => ?_) ?_ (by simp)
    · have hc := ih _ (arg_mem hi) (node_args hn i hi) (by have := size_arg (arg_mem hi); omega)
      simp -implicitDefEqProofs (disch := decide +kernel) only [cf, cs, bodyOf, Try.f37, Option.getD_some, go_sem, ↓reduceIte, Nat.reduceSub, Nat.reduceAdd, Nat.reduceMul, Nat.reduceBEq, Nat.reduceLT, Nat.reduceLeDiff, Nat.reduceEqDiff, reduceCtorEq, Int.reduceToNat, Int.reduceLE, Int.reduceLT, Int.reduceBEq, Int.reduceBNe, mCall, cel3, lt_true hi, arg_get hi, hc, wrap_succ (n := i) (by omega)]
    · simp -implicitDefEqProofs (disch := decide +kernel) only [cf, cs, bodyOf, Try.f37, Option.getD_some, go_sem, ↓reduceIte, Nat.reduceSub, Nat.reduceAdd, Nat.reduceMul, Nat.reduceBEq, Nat.reduceLT, Nat.reduceLeDiff, Nat.reduceEqDiff, reduceCtorEq, Int.reduceToNat, Int.reduceLE, Int.reduceLT, Int.reduceBEq, Int.reduceBNe, mCall, cel3, lt_false (Nat.le_refl t.args.length)]
  rw [ev_fn 37 Try.f37 _ _ _ rfl Try.func37 rfl Try.ntmps37 rfl]
  cases k3 : (t.kind == 3)
  · simp -implicitDefEqProofs (disch := decide +kernel) only [go_sem, ↓reduceIte, Nat.reduceSub, Nat.reduceAdd, Nat.reduceMul, Nat.reduceBEq, Nat.reduceLT, Nat.reduceLeDiff, Nat.reduceEqDiff, reduceCtorEq, Int.reduceToNat, Int.reduceLE, Int.reduceLT, Int.reduceBEq, Int.reduceBNe, mCall, cells_enc, cel3, k3]
    rw [loop_at hloop ?hb ?hs]
    case hb => rfl
    case hs => rfl
    simp -implicitDefEqProofs (disch := decide +kernel) only [go_sem, ↓reduceIte, Nat.reduceSub, Nat.reduceAdd, Nat.reduceMul, Nat.reduceBEq, Nat.reduceLT, Nat.reduceLeDiff, Nat.reduceEqDiff, reduceCtorEq, Int.reduceToNat, Int.reduceLE, Int.reduceLT, Int.reduceBEq, Int.reduceBNe, mCall]
  · have hk : t.kind = 3 := by simpa using k3
    have h1 : ((t.args.length : Int) != 1) = false := by rw [lam_len hn hk]; rfl
    simp -implicitDefEqProofs (disch := decide +kernel) only [go_sem, ↓reduceIte, Nat.reduceSub, Nat.reduceAdd, Nat.reduceMul, Nat.reduceBEq, Nat.reduceLT, Nat.reduceLeDiff, Nat.reduceEqDiff, reduceCtorEq, Int.reduceToNat, Int.reduceLE, Int.reduceLT, Int.reduceBEq, Int.reduceBNe, mCall, cells_enc, cel3, k3, h1]
    rw [loop_at hloop ?hb ?hs]
    case hb => rfl
    case hs => rfl
    simp -implicitDefEqProofs (disch := decide +kernel) only [go_sem, ↓reduceIte, Nat.reduceSub, Nat.reduceAdd, Nat.reduceMul, Nat.reduceBEq, Nat.reduceLT, Nat.reduceLeDiff, Nat.reduceEqDiff, reduceCtorEq, Int.reduceToNat, Int.reduceLE, Int.reduceLT, Int.reduceBEq, Int.reduceBNe, mCall]
theorem applyR_ok {t : Tm} {s : Sb} (h : (applyR t s).2 = 0) : ∃ k, ap 40000 t s 0 = .ok (applyR t s).1 k := by
  unfold applyR at h ⊢
  split at h
  · rename_i hc
    rw [if_pos hc]
    cases hap : ap 40000 t s 0 with
    | ok u m =>
      rw [hap] at h
      cases hm : mayB u
      · simp [outD, hm] at h
      · exact ⟨m, by simp [outD, hm]⟩
    | er e m =>
      rw [hap] at h
      have := ap_err _ _ _ _ _ _ hap
      simp only [outD] at h
      omega
  · simp at h
theorem twice_law {t n m : Tm} (ht : mayB t = true) (hn : mayB n = true) (hm : mayB m = true) (h1 : (applyR t ⟨[n], 0⟩).2 = 0) (h2 : (applyR (applyR t ⟨[n], 0⟩).1 ⟨[m], 0⟩).2 = 0) (h3 : (applyR n ⟨[m], 0⟩).2 = 0)
    (h4 : (applyR t ⟨[m, (applyR n ⟨[m], 0⟩).1], 0⟩).2 = 0) : (applyR (applyR t ⟨[n], 0⟩).1 ⟨[m], 0⟩).1 = (applyR t ⟨[m, (applyR n ⟨[m], 0⟩).1], 0⟩).1 := by
  obtain ⟨k1, e1⟩ := applyR_ok h1
  obtain ⟨k2, e2⟩ := applyR_ok h2
  obtain ⟨k3, e3⟩ := applyR_ok h3
  obtain ⟨k4, e4⟩ := applyR_ok h4
  exact twice_plain (may_parts ht).1 (may_parts hn).1 (may_parts hm).1 e1 e2 e3 e4
set_option maxHeartbeats 4000000 in
theorem substTwice_holds (t : Tm) (w : Wf t) (hs : t.size ≤ 1048576) (n : Tm) (wn : Wf n) (hz : n.size ≤ 1048576) (m : Tm) (wm : Wf m) (hy : m.size ≤ 1048576) :
    ∃ h, (lim C).call 12 [dT t, dT n, dT m] [] = some (.ret (dB true), h) := by
  have hr : room = 1099511627776 := rfl
  have hs : t.size < room := by omega
  have hz : n.size < room := by omega
  have hy : m.size < room := by omega
  refine ⟨[], ?_⟩
  rw [ev_fn 12 Try.f12 _ _ _ rfl Try.func12 rfl Try.ntmps12 rfl]
  simp -implicitDefEqProofs (disch := decide +kernel) only [go_sem, ↓reduceIte, Nat.reduceSub, Nat.reduceAdd, Nat.reduceMul, Nat.reduceBEq, Nat.reduceLT, Nat.reduceLeDiff, Nat.reduceEqDiff, reduceCtorEq, Int.reduceToNat, Int.reduceLE, Int.reduceLT, Int.reduceBEq, Int.reduceBNe, mCall, awake3_spec, light_spec t _ _ hs, light_spec n _ _ hz, light_spec m _ _ hy, tMay_spec t hs, tMay_spec n hz, tMay_spec m hy, cells_enc, cel3, (enc_eq t).symm, (enc_eq n).symm, (enc_eq m).symm]
  cases h1 : lightB t 400 60
  · simp -implicitDefEqProofs (disch := decide +kernel) only [go_sem, ↓reduceIte, Nat.reduceSub, Nat.reduceAdd, Nat.reduceMul, Nat.reduceBEq, Nat.reduceLT, Nat.reduceLeDiff, Nat.reduceEqDiff, reduceCtorEq, Int.reduceToNat, Int.reduceLE, Int.reduceLT, Int.reduceBEq, Int.reduceBNe, mCall, awake3_spec, light_spec t _ _ hs, light_spec n _ _ hz, light_spec m _ _ hy, tMay_spec t hs, tMay_spec n hz, tMay_spec m hy, cells_enc, cel3, (enc_eq t).symm, (enc_eq n).symm, (enc_eq m).symm, h1]
  · skip
    simp -implicitDefEqProofs (disch := decide +kernel) only [go_sem, ↓reduceIte, Nat.reduceSub, Nat.reduceAdd, Nat.reduceMul, Nat.reduceBEq, Nat.reduceLT, Nat.reduceLeDiff, Nat.reduceEqDiff, reduceCtorEq, Int.reduceToNat, Int.reduceLE, Int.reduceLT, Int.reduceBEq, Int.reduceBNe, mCall, awake3_spec, light_spec t _ _ hs, light_spec n _ _ hz, light_spec m _ _ hy, tMay_spec t hs, tMay_spec n hz, tMay_spec m hy, cells_enc, cel3, (enc_eq t).symm, (enc_eq n).symm, (enc_eq m).symm, h1]
    cases h2 : lightB n 400 60
    · simp -implicitDefEqProofs (disch := decide +kernel) only [go_sem, ↓reduceIte, Nat.reduceSub, Nat.reduceAdd, Nat.reduceMul, Nat.reduceBEq, Nat.reduceLT, Nat.reduceLeDiff, Nat.reduceEqDiff, reduceCtorEq, Int.reduceToNat, Int.reduceLE, Int.reduceLT, Int.reduceBEq, Int.reduceBNe, mCall, awake3_spec, light_spec t _ _ hs, light_spec n _ _ hz, light_spec m _ _ hy, tMay_spec t hs, tMay_spec n hz, tMay_spec m hy, cells_enc, cel3, (enc_eq t).symm, (enc_eq n).symm, (enc_eq m).symm, h2]
    · skip
      simp -implicitDefEqProofs (disch := decide +kernel) only [go_sem, ↓reduceIte, Nat.reduceSub, Nat.reduceAdd, Nat.reduceMul, Nat.reduceBEq, Nat.reduceLT, Nat.reduceLeDiff, Nat.reduceEqDiff, reduceCtorEq, Int.reduceToNat, Int.reduceLE, Int.reduceLT, Int.reduceBEq, Int.reduceBNe, mCall, awake3_spec, light_spec t _ _ hs, light_spec n _ _ hz, light_spec m _ _ hy, tMay_spec t hs, tMay_spec n hz, tMay_spec m hy, cells_enc, cel3, (enc_eq t).symm, (enc_eq n).symm, (enc_eq m).symm, h2]
      cases h3 : lightB m 400 60
      · simp -implicitDefEqProofs (disch := decide +kernel) only [go_sem, ↓reduceIte, Nat.reduceSub, Nat.reduceAdd, Nat.reduceMul, Nat.reduceBEq, Nat.reduceLT, Nat.reduceLeDiff, Nat.reduceEqDiff, reduceCtorEq, Int.reduceToNat, Int.reduceLE, Int.reduceLT, Int.reduceBEq, Int.reduceBNe, mCall, awake3_spec, light_spec t _ _ hs, light_spec n _ _ hz, light_spec m _ _ hy, tMay_spec t hs, tMay_spec n hz, tMay_spec m hy, cells_enc, cel3, (enc_eq t).symm, (enc_eq n).symm, (enc_eq m).symm, h3]
      · skip
        simp -implicitDefEqProofs (disch := decide +kernel) only [go_sem, ↓reduceIte, Nat.reduceSub, Nat.reduceAdd, Nat.reduceMul, Nat.reduceBEq, Nat.reduceLT, Nat.reduceLeDiff, Nat.reduceEqDiff, reduceCtorEq, Int.reduceToNat, Int.reduceLE, Int.reduceLT, Int.reduceBEq, Int.reduceBNe, mCall, awake3_spec, light_spec t _ _ hs, light_spec n _ _ hz, light_spec m _ _ hy, tMay_spec t hs, tMay_spec n hz, tMay_spec m hy, cells_enc, cel3, (enc_eq t).symm, (enc_eq n).symm, (enc_eq m).symm, h3]
        cases h4 : mayB t
        · simp -implicitDefEqProofs (disch := decide +kernel) only [go_sem, ↓reduceIte, Nat.reduceSub, Nat.reduceAdd, Nat.reduceMul, Nat.reduceBEq, Nat.reduceLT, Nat.reduceLeDiff, Nat.reduceEqDiff, reduceCtorEq, Int.reduceToNat, Int.reduceLE, Int.reduceLT, Int.reduceBEq, Int.reduceBNe, mCall, awake3_spec, light_spec t _ _ hs, light_spec n _ _ hz, light_spec m _ _ hy, tMay_spec t hs, tMay_spec n hz, tMay_spec m hy, cells_enc, cel3, (enc_eq t).symm, (enc_eq n).symm, (enc_eq m).symm, h4]
        · skip
          simp -implicitDefEqProofs (disch := decide +kernel) only [go_sem, ↓reduceIte, Nat.reduceSub, Nat.reduceAdd, Nat.reduceMul, Nat.reduceBEq, Nat.reduceLT, Nat.reduceLeDiff, Nat.reduceEqDiff, reduceCtorEq, Int.reduceToNat, Int.reduceLE, Int.reduceLT, Int.reduceBEq, Int.reduceBNe, mCall, awake3_spec, light_spec t _ _ hs, light_spec n _ _ hz, light_spec m _ _ hy, tMay_spec t hs, tMay_spec n hz, tMay_spec m hy, cells_enc, cel3, (enc_eq t).symm, (enc_eq n).symm, (enc_eq m).symm, h4]
          cases h5 : mayB n
          · simp -implicitDefEqProofs (disch := decide +kernel) only [go_sem, ↓reduceIte, Nat.reduceSub, Nat.reduceAdd, Nat.reduceMul, Nat.reduceBEq, Nat.reduceLT, Nat.reduceLeDiff, Nat.reduceEqDiff, reduceCtorEq, Int.reduceToNat, Int.reduceLE, Int.reduceLT, Int.reduceBEq, Int.reduceBNe, mCall, awake3_spec, light_spec t _ _ hs, light_spec n _ _ hz, light_spec m _ _ hy, tMay_spec t hs, tMay_spec n hz, tMay_spec m hy, cells_enc, cel3, (enc_eq t).symm, (enc_eq n).symm, (enc_eq m).symm, h5]
          · skip
            simp -implicitDefEqProofs (disch := decide +kernel) only [go_sem, ↓reduceIte, Nat.reduceSub, Nat.reduceAdd, Nat.reduceMul, Nat.reduceBEq, Nat.reduceLT, Nat.reduceLeDiff, Nat.reduceEqDiff, reduceCtorEq, Int.reduceToNat, Int.reduceLE, Int.reduceLT, Int.reduceBEq, Int.reduceBNe, mCall, awake3_spec, light_spec t _ _ hs, light_spec n _ _ hz, light_spec m _ _ hy, tMay_spec t hs, tMay_spec n hz, tMay_spec m hy, cells_enc, cel3, (enc_eq t).symm, (enc_eq n).symm, (enc_eq m).symm, h5]
            cases h6 : mayB m
            · simp -implicitDefEqProofs (disch := decide +kernel) only [go_sem, ↓reduceIte, Nat.reduceSub, Nat.reduceAdd, Nat.reduceMul, Nat.reduceBEq, Nat.reduceLT, Nat.reduceLeDiff, Nat.reduceEqDiff, reduceCtorEq, Int.reduceToNat, Int.reduceLE, Int.reduceLT, Int.reduceBEq, Int.reduceBNe, mCall, awake3_spec, light_spec t _ _ hs, light_spec n _ _ hz, light_spec m _ _ hy, tMay_spec t hs, tMay_spec n hz, tMay_spec m hy, cells_enc, cel3, (enc_eq t).symm, (enc_eq n).symm, (enc_eq m).symm, h6]
            · skip
              simp -implicitDefEqProofs (disch := decide +kernel) only [go_sem, ↓reduceIte, Nat.reduceSub, Nat.reduceAdd, Nat.reduceMul, Nat.reduceBEq, Nat.reduceLT, Nat.reduceLeDiff, Nat.reduceEqDiff, reduceCtorEq, Int.reduceToNat, Int.reduceLE, Int.reduceLT, Int.reduceBEq, Int.reduceBNe, mCall, awake3_spec, light_spec t _ _ hs, light_spec n _ _ hz, light_spec m _ _ hy, tMay_spec t hs, tMay_spec n hz, tMay_spec m hy, cells_enc, cel3, (enc_eq t).symm, (enc_eq n).symm, (enc_eq m).symm, h6]
              have hv := vle_low (light_low h1)
              have hvn := vle_low (light_low h2)
              have hvm := vle_low (light_low h3)
              have hlaw := twice_law h4 h5 h6
              have ra := applyR_may t ⟨[n], 0⟩
              have va := applyR_vle (t := t) (s := ⟨[n], 0⟩) (K := 1099511627776) (by omega) hv (by simpa using hvn)
              obtain ⟨x1, a1⟩ := sapply_spec t ⟨[n], 0⟩ hs (by simpa using hz) (by simp; omega) (vle_mono (by decide) hv) (by simpa using vle_mono (by decide) hvn)
              generalize applyR t ⟨[n], 0⟩ = ua at hlaw ra va a1
              have sa := (may_parts ra).2.1
              have rb := applyR_may ua.1 ⟨[m], 0⟩
              obtain ⟨x2, a2⟩ := sapply_spec ua.1 ⟨[m], 0⟩ (by omega) (by simpa using hy) (by simp; omega) (vle_mono (by decide) va) (by simpa using vle_mono (by decide) hvm)
              generalize applyR ua.1 ⟨[m], 0⟩ = ub at hlaw rb a2
              have sb := (may_parts rb).2.1
              have rx := applyR_may n ⟨[m], 0⟩
              have vx := applyR_vle (t := n) (s := ⟨[m], 0⟩) (K := 1099511627776) (by omega) hvn (by simpa using hvm)
              obtain ⟨x3, a3⟩ := sapply_spec n ⟨[m], 0⟩ hz (by simpa using hy) (by simp; omega) (vle_mono (by decide) hvn) (by simpa using vle_mono (by decide) hvm)
              generalize applyR n ⟨[m], 0⟩ = ux at hlaw rx vx a3
              have sx := (may_parts rx).2.1
              obtain ⟨x4, a4⟩ := sapply_spec t ⟨[m, ux.1], 0⟩ hs (by simp; exact ⟨hy, by omega⟩) (by simp; omega) (vle_mono (by decide) hv) (by simp; exact ⟨vle_mono (by decide) hvm, vle_mono (by decide) vx⟩)
              generalize applyR t ⟨[m, ux.1], 0⟩ = uc at hlaw a4
              have hred := reduced_spec ub.1 (may_parts rb).1 (by omega)
              have s1 := tsame_spec ub.1 (by omega) uc.1
              have e1 : Dv.agg [.slc [enc n], .int .i64 0] = encS ⟨[n], 0⟩ := rfl
              have e2 : Dv.agg [.slc [enc m], .int .i64 0] = encS ⟨[m], 0⟩ := rfl
              have e3 : Dv.agg [.slc [enc m, enc ux.1], .int .i64 0] = encS ⟨[m, ux.1], 0⟩ := rfl
              simp -implicitDefEqProofs (disch := decide +kernel) only [go_sem, ↓reduceIte, Nat.reduceSub, Nat.reduceAdd, Nat.reduceMul, Nat.reduceBEq, Nat.reduceLT, Nat.reduceLeDiff, Nat.reduceEqDiff, reduceCtorEq, Int.reduceToNat, Int.reduceLE, Int.reduceLT, Int.reduceBEq, Int.reduceBNe, mCall, cells_enc, cel3, (enc_eq t).symm, (enc_eq n).symm, (enc_eq m).symm, (enc_eq ua.1).symm, (enc_eq ub.1).symm, (enc_eq ux.1).symm, (enc_eq uc.1).symm, e1, e2, e3, a1, a2, a3, a4]
              cases q1 : (ua.2 != 0)
              · cases q2 : (ub.2 != 0)
                · cases q3 : (ux.2 != 0)
                  · cases q4 : (uc.2 != 0)
                    · have hh := hlaw (by simpa using q1) (by simpa using q2) (by simpa using q3) (by simpa using q4)
                      rw [hh, sameB_refl] at s1
                      rw [hh] at hred
                      simp -implicitDefEqProofs (disch := decide +kernel) only [go_sem, ↓reduceIte, Nat.reduceSub, Nat.reduceAdd, Nat.reduceMul, Nat.reduceBEq, Nat.reduceLT, Nat.reduceLeDiff, Nat.reduceEqDiff, reduceCtorEq, Int.reduceToNat, Int.reduceLE, Int.reduceLT, Int.reduceBEq, Int.reduceBNe, mCall, cells_enc, cel3, (enc_eq ub.1).symm, (enc_eq uc.1).symm, q1, q2, q3, q4, hh, hred, s1]
                    · simp -implicitDefEqProofs (disch := decide +kernel) only [go_sem, ↓reduceIte, Nat.reduceSub, Nat.reduceAdd, Nat.reduceMul, Nat.reduceBEq, Nat.reduceLT, Nat.reduceLeDiff, Nat.reduceEqDiff, reduceCtorEq, Int.reduceToNat, Int.reduceLE, Int.reduceLT, Int.reduceBEq, Int.reduceBNe, mCall, q1, q2, q3, q4]
                  · simp -implicitDefEqProofs (disch := decide +kernel) only [go_sem, ↓reduceIte, Nat.reduceSub, Nat.reduceAdd, Nat.reduceMul, Nat.reduceBEq, Nat.reduceLT, Nat.reduceLeDiff, Nat.reduceEqDiff, reduceCtorEq, Int.reduceToNat, Int.reduceLE, Int.reduceLT, Int.reduceBEq, Int.reduceBNe, mCall, q1, q2, q3]
                · simp -implicitDefEqProofs (disch := decide +kernel) only [go_sem, ↓reduceIte, Nat.reduceSub, Nat.reduceAdd, Nat.reduceMul, Nat.reduceBEq, Nat.reduceLT, Nat.reduceLeDiff, Nat.reduceEqDiff, reduceCtorEq, Int.reduceToNat, Int.reduceLE, Int.reduceLT, Int.reduceBEq, Int.reduceBNe, mCall, q1, q2]
              · simp -implicitDefEqProofs (disch := decide +kernel) only [go_sem, ↓reduceIte, Nat.reduceSub, Nat.reduceAdd, Nat.reduceMul, Nat.reduceBEq, Nat.reduceLT, Nat.reduceLeDiff, Nat.reduceEqDiff, reduceCtorEq, Int.reduceToNat, Int.reduceLE, Int.reduceLT, Int.reduceBEq, Int.reduceBNe, mCall, q1]
end Go.Proofs.Ytojahppjdimdbaa
