/- Laws of layer 4: MetaNone. -/
import Derived.Test.YtmemmdfjlhamfaaF44
set_option linter.unusedSimpArgs false
set_option linter.unusedVariables false
set_option maxRecDepth 100000
namespace Go.Proofs.Ytmemmdfjlhamfaa
open Go.Proofs
theorem fillR_vle {t : Tm} {th : List Tm} {K : Int} (h : ThOk K th) (hv : vleB K t = true) (n : Int) : vleB (K + 200000000) (FillR t th n).1 = true := by
  have h0 := h.h0
  unfold FillR
  by_cases ho : fillOk t th n = true
  · have hp := may_parts (fillOk_parts ho).1
    rw [if_pos ho]
    unfold fillW
    split
    · split
      · exact vle_mono (by omega) (fill_fits h.h0 (fun x hx => (h.all x hx).2) t n hp.1 hv).1
      · exact zT_vle _
    · exact zT_vle _
  · rw [if_neg ho]; exact zT_vle _
def mno_S (t : Tm) (th : List Tm) (n : Int) (i : Nat) : St := mk 88 [(1, dL th), (2, dI n), (3, .lref 3 0), (10, dI i)] [(3, cel3 t)] [] []
set_option maxHeartbeats 4000000 in
theorem metaNone_holds (t : Tm) (w : Wf t) (hs : t.size ≤ 1048576) (l : List Tm) (wl : ∀ t ∈ l, Wf t) (hsl : (l.map Tm.size).sum + 1 ≤ 1048576) (n : Int) (jn : in64 n) :
    ∃ h, (lim C).call 5 [dT t, dL l, dI n] [] = some (.ret (dB true), h) := by
  have hr : room = 1099511627776 := rfl
  have hs' : t.size < room := by omega
  obtain ⟨hlr, hzr⟩ := lists_room hsl
  refine ⟨[], ?_⟩
  rw [ev_fn 5 Try.f5 _ _ _ rfl Try.func5 rfl Try.ntmps5 rfl]
  simp -implicitDefEqProofs (disch := decide +kernel) only [go_sem, ↓reduceIte, Nat.reduceSub, Nat.reduceAdd, Nat.reduceMul, Nat.reduceBEq, Nat.reduceLT, Nat.reduceLeDiff, Nat.reduceEqDiff, reduceCtorEq, Int.reduceToNat, Int.reduceLE, Int.reduceLT, Int.reduceBEq, Int.reduceBNe, mCall, awake4_spec, light_spec t _ _ hs', lights_spec l _ _ hlr hzr, tMay_spec t hs', cells_enc, cel3, (enc_eq t).symm]
  cases h1 : lightB t 5000 80
  · simp -implicitDefEqProofs (disch := decide +kernel) only [go_sem, ↓reduceIte, Nat.reduceSub, Nat.reduceAdd, Nat.reduceMul, Nat.reduceBEq, Nat.reduceLT, Nat.reduceLeDiff, Nat.reduceEqDiff, reduceCtorEq, Int.reduceToNat, Int.reduceLE, Int.reduceLT, Int.reduceBEq, Int.reduceBNe, mCall, awake4_spec, light_spec t _ _ hs', lights_spec l _ _ hlr hzr, tMay_spec t hs', cells_enc, cel3, (enc_eq t).symm, h1]
  · skip
    simp -implicitDefEqProofs (disch := decide +kernel) only [go_sem, ↓reduceIte, Nat.reduceSub, Nat.reduceAdd, Nat.reduceMul, Nat.reduceBEq, Nat.reduceLT, Nat.reduceLeDiff, Nat.reduceEqDiff, reduceCtorEq, Int.reduceToNat, Int.reduceLE, Int.reduceLT, Int.reduceBEq, Int.reduceBNe, mCall, awake4_spec, light_spec t _ _ hs', lights_spec l _ _ hlr hzr, tMay_spec t hs', cells_enc, cel3, (enc_eq t).symm, h1]
    cases h2 : lightsB l 5000 80
    · simp -implicitDefEqProofs (disch := decide +kernel) only [go_sem, ↓reduceIte, Nat.reduceSub, Nat.reduceAdd, Nat.reduceMul, Nat.reduceBEq, Nat.reduceLT, Nat.reduceLeDiff, Nat.reduceEqDiff, reduceCtorEq, Int.reduceToNat, Int.reduceLE, Int.reduceLT, Int.reduceBEq, Int.reduceBNe, mCall, awake4_spec, light_spec t _ _ hs', lights_spec l _ _ hlr hzr, tMay_spec t hs', cells_enc, cel3, (enc_eq t).symm, h2]
    · skip
      simp -implicitDefEqProofs (disch := decide +kernel) only [go_sem, ↓reduceIte, Nat.reduceSub, Nat.reduceAdd, Nat.reduceMul, Nat.reduceBEq, Nat.reduceLT, Nat.reduceLeDiff, Nat.reduceEqDiff, reduceCtorEq, Int.reduceToNat, Int.reduceLE, Int.reduceLT, Int.reduceBEq, Int.reduceBNe, mCall, awake4_spec, light_spec t _ _ hs', lights_spec l _ _ hlr hzr, tMay_spec t hs', cells_enc, cel3, (enc_eq t).symm, h2]
      cases h3 : mayB t
      · simp -implicitDefEqProofs (disch := decide +kernel) only [go_sem, ↓reduceIte, Nat.reduceSub, Nat.reduceAdd, Nat.reduceMul, Nat.reduceBEq, Nat.reduceLT, Nat.reduceLeDiff, Nat.reduceEqDiff, reduceCtorEq, Int.reduceToNat, Int.reduceLE, Int.reduceLT, Int.reduceBEq, Int.reduceBNe, mCall, awake4_spec, light_spec t _ _ hs', lights_spec l _ _ hlr hzr, tMay_spec t hs', cells_enc, cel3, (enc_eq t).symm, h3]
      · skip
        simp -implicitDefEqProofs (disch := decide +kernel) only [go_sem, ↓reduceIte, Nat.reduceSub, Nat.reduceAdd, Nat.reduceMul, Nat.reduceBEq, Nat.reduceLT, Nat.reduceLeDiff, Nat.reduceEqDiff, reduceCtorEq, Int.reduceToNat, Int.reduceLE, Int.reduceLT, Int.reduceBEq, Int.reduceBNe, mCall, awake4_spec, light_spec t _ _ hs', lights_spec l _ _ hlr hzr, tMay_spec t hs', cells_enc, cel3, (enc_eq t).symm, h3]
        cases h4 : decide (n < 0)
        rotate_left
        · simp -implicitDefEqProofs (disch := decide +kernel) only [go_sem, ↓reduceIte, Nat.reduceSub, Nat.reduceAdd, Nat.reduceMul, Nat.reduceBEq, Nat.reduceLT, Nat.reduceLeDiff, Nat.reduceEqDiff, reduceCtorEq, Int.reduceToNat, Int.reduceLE, Int.reduceLT, Int.reduceBEq, Int.reduceBNe, mCall, awake4_spec, light_spec t _ _ hs', lights_spec l _ _ hlr hzr, tMay_spec t hs', cells_enc, cel3, (enc_eq t).symm, h4]
        simp -implicitDefEqProofs (disch := decide +kernel) only [go_sem, ↓reduceIte, Nat.reduceSub, Nat.reduceAdd, Nat.reduceMul, Nat.reduceBEq, Nat.reduceLT, Nat.reduceLeDiff, Nat.reduceEqDiff, reduceCtorEq, Int.reduceToNat, Int.reduceLE, Int.reduceLT, Int.reduceBEq, Int.reduceBNe, mCall, awake4_spec, light_spec t _ _ hs', lights_spec l _ _ hlr hzr, tMay_spec t hs', cells_enc, cel3, (enc_eq t).symm, h4]
        cases h5 : decide (n > 1000)
        rotate_left
        · simp -implicitDefEqProofs (disch := decide +kernel) only [go_sem, ↓reduceIte, Nat.reduceSub, Nat.reduceAdd, Nat.reduceMul, Nat.reduceBEq, Nat.reduceLT, Nat.reduceLeDiff, Nat.reduceEqDiff, reduceCtorEq, Int.reduceToNat, Int.reduceLE, Int.reduceLT, Int.reduceBEq, Int.reduceBNe, mCall, awake4_spec, light_spec t _ _ hs', lights_spec l _ _ hlr hzr, tMay_spec t hs', cells_enc, cel3, (enc_eq t).symm, h5]
        simp -implicitDefEqProofs (disch := decide +kernel) only [go_sem, ↓reduceIte, Nat.reduceSub, Nat.reduceAdd, Nat.reduceMul, Nat.reduceBEq, Nat.reduceLT, Nat.reduceLeDiff, Nat.reduceEqDiff, reduceCtorEq, Int.reduceToNat, Int.reduceLE, Int.reduceLT, Int.reduceBEq, Int.reduceBNe, mCall, awake4_spec, light_spec t _ _ hs', lights_spec l _ _ hlr hzr, tMay_spec t hs', cells_enc, cel3, (enc_eq t).symm, h5]
        have hok := lights_ok h2 hzr
        have hv := vle_low (light_low h1)
        have hlen := (lights_parts h2).1
        have hloop : (lim C).code 5 (.loop (cf (cf (cs (cf (cs (cs (cs (cs (cs (bodyOf Try.f5))))))))))) (mno_S t l n 0) = some (if allB l.length (fun k => mayB (l.getD k default)) then (.exit 0, mk 88 [(1, dL l), (2, dI n), (3, .lref 3 0), (10, dI l.length), (48, dB false)] [(3, cel3 t)] [] []) else (.ret, mk 88 [(6, dB true)] [] [] [])) := by
          refine loop_all (mno_S t l n) l.length _ (fun k hk hp => ?_) (fun k hk hp => ?_) ?_ (by simp) (by simp)
          · have hc := tMay_spec (l.getD k default) (hzr _ (getD_mem hk))
            rw [hp] at hc
            simp -implicitDefEqProofs (disch := decide +kernel) only [cf, cs, bodyOf, Try.f5, Option.getD_some, go_sem, ↓reduceIte, Nat.reduceSub, Nat.reduceAdd, Nat.reduceMul, Nat.reduceBEq, Nat.reduceLT, Nat.reduceLeDiff, Nat.reduceEqDiff, reduceCtorEq, Int.reduceToNat, Int.reduceLE, Int.reduceLT, Int.reduceBEq, Int.reduceBNe, mCall, mno_S, cel3, lt_true hk, getD_get hk, hc, wrap_succ (n := k) (by omega)]
          · have hc := tMay_spec (l.getD k default) (hzr _ (getD_mem hk))
            rw [hp] at hc
            simp -implicitDefEqProofs (disch := decide +kernel) only [cf, cs, bodyOf, Try.f5, Option.getD_some, go_sem, ↓reduceIte, Nat.reduceSub, Nat.reduceAdd, Nat.reduceMul, Nat.reduceBEq, Nat.reduceLT, Nat.reduceLeDiff, Nat.reduceEqDiff, reduceCtorEq, Int.reduceToNat, Int.reduceLE, Int.reduceLT, Int.reduceBEq, Int.reduceBNe, mCall, mno_S, cel3, lt_true hk, getD_get hk, hc]
          · simp -implicitDefEqProofs (disch := decide +kernel) only [cf, cs, bodyOf, Try.f5, Option.getD_some, go_sem, ↓reduceIte, Nat.reduceSub, Nat.reduceAdd, Nat.reduceMul, Nat.reduceBEq, Nat.reduceLT, Nat.reduceLeDiff, Nat.reduceEqDiff, reduceCtorEq, Int.reduceToNat, Int.reduceLE, Int.reduceLT, Int.reduceBEq, Int.reduceBNe, mCall, mno_S, cel3, lt_false (Nat.le_refl l.length)]
        have hm : maysB l = allB l.length (fun k => mayB (l.getD k default)) := rfl
        rw [← hm] at hloop
        rw [loop_at hloop ?hb ?hs]
        case hb => rfl
        case hs => rfl
        cases hall : maysB l
        · simp -implicitDefEqProofs (disch := decide +kernel) only [go_sem, ↓reduceIte, Nat.reduceSub, Nat.reduceAdd, Nat.reduceMul, Nat.reduceBEq, Nat.reduceLT, Nat.reduceLeDiff, Nat.reduceEqDiff, reduceCtorEq, Int.reduceToNat, Int.reduceLE, Int.reduceLT, Int.reduceBEq, Int.reduceBNe, mCall, hall]
        · have hfo : fillOk t l n = true := fillOk_of h3 (by simpa using h4) (by simpa using h5) (by omega) (maysB_iff.1 hall)
          have hfn : fillOk t [] n = true := fillOk_of h3 (by simpa using h4) (by simpa using h5) (by simp) (by simp)
          obtain ⟨x1, a1⟩ := mFill_spec hok t hs hv n
          obtain ⟨x2, a2⟩ := mFill_spec thOk_nil t hs hv n
          have a2 : (lim C).call 24 [dT t, .d (.slc []), dI n] [] = some (.ret (.tup [dT (FillR t [] n).1, dI (FillR t [] n).2]), x2) := a2
          have hms := metas_spec t hs'
          have hnil := fillR_nil hfn
          have hnone := fillR_none (th := l) hfo
          cases hmt : metasB t
          · rw [hmt] at hms hnil hnone
            rw [hnone rfl] at a1
            have hss := tsame_spec t hs' t
            rw [sameB_refl] at hss
            rw [hnil] at a2
            generalize FillR t [] n = rr at a2 ⊢
            simp -implicitDefEqProofs (disch := decide +kernel) only [go_sem, ↓reduceIte, Nat.reduceSub, Nat.reduceAdd, Nat.reduceMul, Nat.reduceBEq, Nat.reduceLT, Nat.reduceLeDiff, Nat.reduceEqDiff, reduceCtorEq, Int.reduceToNat, Int.reduceLE, Int.reduceLT, Int.reduceBEq, Int.reduceBNe, mCall, hall, cells_enc, cel3, (enc_eq t).symm, (enc_eq rr.1).symm, hms, a1, a2, hss]
          · rw [hmt] at hms hnil
            rw [hnil] at a2
            generalize FillR t [] n = rr at a2 ⊢
            generalize FillR t l n = r1 at a1 ⊢
            simp -implicitDefEqProofs (disch := decide +kernel) only [go_sem, ↓reduceIte, Nat.reduceSub, Nat.reduceAdd, Nat.reduceMul, Nat.reduceBEq, Nat.reduceLT, Nat.reduceLeDiff, Nat.reduceEqDiff, reduceCtorEq, Int.reduceToNat, Int.reduceLE, Int.reduceLT, Int.reduceBEq, Int.reduceBNe, mCall, hall, cells_enc, cel3, (enc_eq t).symm, (enc_eq rr.1).symm, (enc_eq r1.1).symm, hms, a1, a2]
end Go.Proofs.Ytmemmdfjlhamfaa
