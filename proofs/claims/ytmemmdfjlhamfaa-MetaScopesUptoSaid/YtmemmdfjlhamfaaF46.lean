/- Law of layer 4: MetaScopes. -/
import Derived.Test.YtmemmdfjlhamfaaF45
set_option linter.unusedSimpArgs false
set_option linter.unusedVariables false
set_option maxRecDepth 100000
namespace Go.Proofs.Ytmemmdfjlhamfaa
open Go.Proofs
def msc_S (t : Tm) (th : List Tm) (n v : Int) (i : Nat) : St := mk 106 [(1, dL th), (2, dI n), (3, dI v), (4, .lref 4 0), (13, dI i)] [(4, cel3 t)] [] []
set_option maxHeartbeats 4000000 in
theorem metaScopes_holds (t : Tm) (w : Wf t) (hs : t.size ≤ 1048576) (l : List Tm) (wl : ∀ t ∈ l, Wf t) (hsl : (l.map Tm.size).sum + 1 ≤ 1048576) (n : Int) (jn : in64 n) (v : Int) (jv : in64 v) :
    ∃ h, (lim C).call 3 [dT t, dL l, dI n, dI v] [] = some (.ret (dB true), h) := by
  have hr : room = 1099511627776 := rfl
  have hs' : t.size < room := by omega
  obtain ⟨hlr, hzr⟩ := lists_room hsl
  refine ⟨[], ?_⟩
  rw [ev_fn 3 Try.f3 _ _ _ rfl Try.func3 rfl Try.ntmps3 rfl]
  simp -implicitDefEqProofs (disch := decide +kernel) only [go_sem, ↓reduceIte, Nat.reduceSub, Nat.reduceAdd, Nat.reduceMul, Nat.reduceBEq, Nat.reduceLT, Nat.reduceLeDiff, Nat.reduceEqDiff, reduceCtorEq, Int.reduceToNat, Int.reduceLE, Int.reduceLT, Int.reduceBEq, Int.reduceBNe, mCall, awake4_spec, light_spec t _ _ hs', lights_spec l _ _ hlr hzr, bare_spec t hs', tMay_spec t hs', cells_enc, cel3, (enc_eq t).symm]
  cases h1 : lightB t 300 60
  · simp -implicitDefEqProofs (disch := decide +kernel) only [go_sem, ↓reduceIte, Nat.reduceSub, Nat.reduceAdd, Nat.reduceMul, Nat.reduceBEq, Nat.reduceLT, Nat.reduceLeDiff, Nat.reduceEqDiff, reduceCtorEq, Int.reduceToNat, Int.reduceLE, Int.reduceLT, Int.reduceBEq, Int.reduceBNe, mCall, awake4_spec, light_spec t _ _ hs', lights_spec l _ _ hlr hzr, bare_spec t hs', tMay_spec t hs', cells_enc, cel3, (enc_eq t).symm, h1]
  · skip
    simp -implicitDefEqProofs (disch := decide +kernel) only [go_sem, ↓reduceIte, Nat.reduceSub, Nat.reduceAdd, Nat.reduceMul, Nat.reduceBEq, Nat.reduceLT, Nat.reduceLeDiff, Nat.reduceEqDiff, reduceCtorEq, Int.reduceToNat, Int.reduceLE, Int.reduceLT, Int.reduceBEq, Int.reduceBNe, mCall, awake4_spec, light_spec t _ _ hs', lights_spec l _ _ hlr hzr, bare_spec t hs', tMay_spec t hs', cells_enc, cel3, (enc_eq t).symm, h1]
    cases h2 : lightsB l 300 60
    · simp -implicitDefEqProofs (disch := decide +kernel) only [go_sem, ↓reduceIte, Nat.reduceSub, Nat.reduceAdd, Nat.reduceMul, Nat.reduceBEq, Nat.reduceLT, Nat.reduceLeDiff, Nat.reduceEqDiff, reduceCtorEq, Int.reduceToNat, Int.reduceLE, Int.reduceLT, Int.reduceBEq, Int.reduceBNe, mCall, awake4_spec, light_spec t _ _ hs', lights_spec l _ _ hlr hzr, bare_spec t hs', tMay_spec t hs', cells_enc, cel3, (enc_eq t).symm, h2]
    · skip
      simp -implicitDefEqProofs (disch := decide +kernel) only [go_sem, ↓reduceIte, Nat.reduceSub, Nat.reduceAdd, Nat.reduceMul, Nat.reduceBEq, Nat.reduceLT, Nat.reduceLeDiff, Nat.reduceEqDiff, reduceCtorEq, Int.reduceToNat, Int.reduceLE, Int.reduceLT, Int.reduceBEq, Int.reduceBNe, mCall, awake4_spec, light_spec t _ _ hs', lights_spec l _ _ hlr hzr, bare_spec t hs', tMay_spec t hs', cells_enc, cel3, (enc_eq t).symm, h2]
      cases h3 : bareB t
      · simp -implicitDefEqProofs (disch := decide +kernel) only [go_sem, ↓reduceIte, Nat.reduceSub, Nat.reduceAdd, Nat.reduceMul, Nat.reduceBEq, Nat.reduceLT, Nat.reduceLeDiff, Nat.reduceEqDiff, reduceCtorEq, Int.reduceToNat, Int.reduceLE, Int.reduceLT, Int.reduceBEq, Int.reduceBNe, mCall, awake4_spec, light_spec t _ _ hs', lights_spec l _ _ hlr hzr, bare_spec t hs', tMay_spec t hs', cells_enc, cel3, (enc_eq t).symm, h3]
      · skip
        simp -implicitDefEqProofs (disch := decide +kernel) only [go_sem, ↓reduceIte, Nat.reduceSub, Nat.reduceAdd, Nat.reduceMul, Nat.reduceBEq, Nat.reduceLT, Nat.reduceLeDiff, Nat.reduceEqDiff, reduceCtorEq, Int.reduceToNat, Int.reduceLE, Int.reduceLT, Int.reduceBEq, Int.reduceBNe, mCall, awake4_spec, light_spec t _ _ hs', lights_spec l _ _ hlr hzr, bare_spec t hs', tMay_spec t hs', cells_enc, cel3, (enc_eq t).symm, h3]
        cases h4 : decide (n < 0)
        rotate_left
        · simp -implicitDefEqProofs (disch := decide +kernel) only [go_sem, ↓reduceIte, Nat.reduceSub, Nat.reduceAdd, Nat.reduceMul, Nat.reduceBEq, Nat.reduceLT, Nat.reduceLeDiff, Nat.reduceEqDiff, reduceCtorEq, Int.reduceToNat, Int.reduceLE, Int.reduceLT, Int.reduceBEq, Int.reduceBNe, mCall, awake4_spec, light_spec t _ _ hs', lights_spec l _ _ hlr hzr, bare_spec t hs', tMay_spec t hs', cells_enc, cel3, (enc_eq t).symm, h4]
        simp -implicitDefEqProofs (disch := decide +kernel) only [go_sem, ↓reduceIte, Nat.reduceSub, Nat.reduceAdd, Nat.reduceMul, Nat.reduceBEq, Nat.reduceLT, Nat.reduceLeDiff, Nat.reduceEqDiff, reduceCtorEq, Int.reduceToNat, Int.reduceLE, Int.reduceLT, Int.reduceBEq, Int.reduceBNe, mCall, awake4_spec, light_spec t _ _ hs', lights_spec l _ _ hlr hzr, bare_spec t hs', tMay_spec t hs', cells_enc, cel3, (enc_eq t).symm, h4]
        cases h5 : decide (n > 20)
        rotate_left
        · simp -implicitDefEqProofs (disch := decide +kernel) only [go_sem, ↓reduceIte, Nat.reduceSub, Nat.reduceAdd, Nat.reduceMul, Nat.reduceBEq, Nat.reduceLT, Nat.reduceLeDiff, Nat.reduceEqDiff, reduceCtorEq, Int.reduceToNat, Int.reduceLE, Int.reduceLT, Int.reduceBEq, Int.reduceBNe, mCall, awake4_spec, light_spec t _ _ hs', lights_spec l _ _ hlr hzr, bare_spec t hs', tMay_spec t hs', cells_enc, cel3, (enc_eq t).symm, h5]
        simp -implicitDefEqProofs (disch := decide +kernel) only [go_sem, ↓reduceIte, Nat.reduceSub, Nat.reduceAdd, Nat.reduceMul, Nat.reduceBEq, Nat.reduceLT, Nat.reduceLeDiff, Nat.reduceEqDiff, reduceCtorEq, Int.reduceToNat, Int.reduceLE, Int.reduceLT, Int.reduceBEq, Int.reduceBNe, mCall, awake4_spec, light_spec t _ _ hs', lights_spec l _ _ hlr hzr, bare_spec t hs', tMay_spec t hs', cells_enc, cel3, (enc_eq t).symm, h5]
        cases h6 : decide (v < 0)
        rotate_left
        · simp -implicitDefEqProofs (disch := decide +kernel) only [go_sem, ↓reduceIte, Nat.reduceSub, Nat.reduceAdd, Nat.reduceMul, Nat.reduceBEq, Nat.reduceLT, Nat.reduceLeDiff, Nat.reduceEqDiff, reduceCtorEq, Int.reduceToNat, Int.reduceLE, Int.reduceLT, Int.reduceBEq, Int.reduceBNe, mCall, awake4_spec, light_spec t _ _ hs', lights_spec l _ _ hlr hzr, bare_spec t hs', tMay_spec t hs', cells_enc, cel3, (enc_eq t).symm, h6]
        simp -implicitDefEqProofs (disch := decide +kernel) only [go_sem, ↓reduceIte, Nat.reduceSub, Nat.reduceAdd, Nat.reduceMul, Nat.reduceBEq, Nat.reduceLT, Nat.reduceLeDiff, Nat.reduceEqDiff, reduceCtorEq, Int.reduceToNat, Int.reduceLE, Int.reduceLT, Int.reduceBEq, Int.reduceBNe, mCall, awake4_spec, light_spec t _ _ hs', lights_spec l _ _ hlr hzr, bare_spec t hs', tMay_spec t hs', cells_enc, cel3, (enc_eq t).symm, h6]
        cases h7 : decide (v > 20)
        rotate_left
        · simp -implicitDefEqProofs (disch := decide +kernel) only [go_sem, ↓reduceIte, Nat.reduceSub, Nat.reduceAdd, Nat.reduceMul, Nat.reduceBEq, Nat.reduceLT, Nat.reduceLeDiff, Nat.reduceEqDiff, reduceCtorEq, Int.reduceToNat, Int.reduceLE, Int.reduceLT, Int.reduceBEq, Int.reduceBNe, mCall, awake4_spec, light_spec t _ _ hs', lights_spec l _ _ hlr hzr, bare_spec t hs', tMay_spec t hs', cells_enc, cel3, (enc_eq t).symm, h7]
        simp -implicitDefEqProofs (disch := decide +kernel) only [go_sem, ↓reduceIte, Nat.reduceSub, Nat.reduceAdd, Nat.reduceMul, Nat.reduceBEq, Nat.reduceLT, Nat.reduceLeDiff, Nat.reduceEqDiff, reduceCtorEq, Int.reduceToNat, Int.reduceLE, Int.reduceLT, Int.reduceBEq, Int.reduceBNe, mCall, awake4_spec, light_spec t _ _ hs', lights_spec l _ _ hlr hzr, bare_spec t hs', tMay_spec t hs', cells_enc, cel3, (enc_eq t).symm, h7]
        cases h8 : mayB t
        · simp -implicitDefEqProofs (disch := decide +kernel) only [go_sem, ↓reduceIte, Nat.reduceSub, Nat.reduceAdd, Nat.reduceMul, Nat.reduceBEq, Nat.reduceLT, Nat.reduceLeDiff, Nat.reduceEqDiff, reduceCtorEq, Int.reduceToNat, Int.reduceLE, Int.reduceLT, Int.reduceBEq, Int.reduceBNe, mCall, awake4_spec, light_spec t _ _ hs', lights_spec l _ _ hlr hzr, bare_spec t hs', tMay_spec t hs', cells_enc, cel3, (enc_eq t).symm, h8]
        · skip
          simp -implicitDefEqProofs (disch := decide +kernel) only [go_sem, ↓reduceIte, Nat.reduceSub, Nat.reduceAdd, Nat.reduceMul, Nat.reduceBEq, Nat.reduceLT, Nat.reduceLeDiff, Nat.reduceEqDiff, reduceCtorEq, Int.reduceToNat, Int.reduceLE, Int.reduceLT, Int.reduceBEq, Int.reduceBNe, mCall, awake4_spec, light_spec t _ _ hs', lights_spec l _ _ hlr hzr, bare_spec t hs', tMay_spec t hs', cells_enc, cel3, (enc_eq t).symm, h8]
          have hok := lights_ok h2 hzr
          have hv := vle_low (light_low h1)
          have hlen := (lights_parts h2).1
          have g4 : 0 ≤ n := by simp at h4; omega
          have g5 : n ≤ 20 := by simp at h5; omega
          have g6 : 0 ≤ v := by simp at h6; omega
          have g7 : v ≤ 20 := by simp at h7; omega
          have hw : IntKind.wrap .i64 (n + v) = n + v := wrap_ok (by omega) (by omega)
          obtain ⟨x0, k0⟩ := tscoped_spec t (n + v) l.length hs' (calm_vle (c := 1099511627776) (by omega) t 0 (by omega) (by omega) (may_parts h8).1 hv)
          cases h9 : scopedB t (n + v) l.length
          · rw [h9] at k0
            simp -implicitDefEqProofs (disch := decide +kernel) only [go_sem, ↓reduceIte, Nat.reduceSub, Nat.reduceAdd, Nat.reduceMul, Nat.reduceBEq, Nat.reduceLT, Nat.reduceLeDiff, Nat.reduceEqDiff, reduceCtorEq, Int.reduceToNat, Int.reduceLE, Int.reduceLT, Int.reduceBEq, Int.reduceBNe, mCall, tMay_spec t hs', cells_enc, cel3, (enc_eq t).symm, h1, h2, h3, h4, h5, h6, h7, h8, hw, k0]
          · rw [h9] at k0
            have hgood : ∀ k, k < l.length → ∃ h, (mayB (l.getD k default) = true → (lim C).call 23 [dT (l.getD k default), dI v, dI 5] [] = some (.ret (dB (scopedB (l.getD k default) v 5)), h)) := fun k hk => by
              by_cases hm : mayB (l.getD k default) = true
              · obtain ⟨h, hh⟩ := tscoped_spec (l.getD k default) v 5 (hzr _ (getD_mem hk)) (calm_vle (c := 1099511627776) (by omega) _ 0 (by omega) (by have := hzr _ (getD_mem hk); omega) (may_parts hm).1 (hok.all _ (getD_mem hk)).2)
                exact ⟨h, fun _ => hh⟩
              · exact ⟨[], fun e => absurd e hm⟩
            have hloop : (lim C).code 3 (.loop (cf (cf (cs (cf (cs (cs (cs (cs (cs (cs (bodyOf Try.f3)))))))))))) (msc_S t l n v 0) = some (if allB l.length (fun k => mayB (l.getD k default) && scopedB (l.getD k default) v 5) then (.exit 0, mk 106 [(1, dL l), (2, dI n), (3, dI v), (4, .lref 4 0), (13, dI l.length), (72, dB false)] [(4, cel3 t)] [] []) else (.ret, mk 106 [(8, dB true)] [] [] [])) := by
              refine loop_all (msc_S t l n v) l.length _ (fun k hk hp => ?_) (fun k hk hp => ?_) ?_ (by simp) (by simp)
              · simp only [Bool.and_eq_true] at hp
                obtain ⟨hp1, hp2⟩ := hp
                have hc := tMay_spec (l.getD k default) (hzr _ (getD_mem hk))
                obtain ⟨h, hsc⟩ := hgood k hk
                have hsc := hsc hp1
                rw [hp1] at hc
                rw [hp2] at hsc
                simp -implicitDefEqProofs (disch := decide +kernel) only [cf, cs, bodyOf, Try.f3, Option.getD_some, go_sem, ↓reduceIte, Nat.reduceSub, Nat.reduceAdd, Nat.reduceMul, Nat.reduceBEq, Nat.reduceLT, Nat.reduceLeDiff, Nat.reduceEqDiff, reduceCtorEq, Int.reduceToNat, Int.reduceLE, Int.reduceLT, Int.reduceBEq, Int.reduceBNe, mCall, msc_S, cel3, lt_true hk, getD_get hk, hc, hsc, wrap_succ (n := k) (by omega)]
              · have hc := tMay_spec (l.getD k default) (hzr _ (getD_mem hk))
                obtain ⟨h, hsc⟩ := hgood k hk
                cases hp1 : mayB (l.getD k default)
                · rw [hp1] at hc
                  simp -implicitDefEqProofs (disch := decide +kernel) only [cf, cs, bodyOf, Try.f3, Option.getD_some, go_sem, ↓reduceIte, Nat.reduceSub, Nat.reduceAdd, Nat.reduceMul, Nat.reduceBEq, Nat.reduceLT, Nat.reduceLeDiff, Nat.reduceEqDiff, reduceCtorEq, Int.reduceToNat, Int.reduceLE, Int.reduceLT, Int.reduceBEq, Int.reduceBNe, mCall, msc_S, cel3, lt_true hk, getD_get hk, hc]
                · have hsc := hsc hp1
                  rw [hp1] at hc hp
                  have hp2 : scopedB (l.getD k default) v 5 = false := by simpa using hp
                  rw [hp2] at hsc
                  simp -implicitDefEqProofs (disch := decide +kernel) only [cf, cs, bodyOf, Try.f3, Option.getD_some, go_sem, ↓reduceIte, Nat.reduceSub, Nat.reduceAdd, Nat.reduceMul, Nat.reduceBEq, Nat.reduceLT, Nat.reduceLeDiff, Nat.reduceEqDiff, reduceCtorEq, Int.reduceToNat, Int.reduceLE, Int.reduceLT, Int.reduceBEq, Int.reduceBNe, mCall, msc_S, cel3, lt_true hk, getD_get hk, hc, hsc]
              · simp -implicitDefEqProofs (disch := decide +kernel) only [cf, cs, bodyOf, Try.f3, Option.getD_some, go_sem, ↓reduceIte, Nat.reduceSub, Nat.reduceAdd, Nat.reduceMul, Nat.reduceBEq, Nat.reduceLT, Nat.reduceLeDiff, Nat.reduceEqDiff, reduceCtorEq, Int.reduceToNat, Int.reduceLE, Int.reduceLT, Int.reduceBEq, Int.reduceBNe, mCall, msc_S, cel3, lt_false (Nat.le_refl l.length)]
            simp -implicitDefEqProofs (disch := decide +kernel) only [go_sem, ↓reduceIte, Nat.reduceSub, Nat.reduceAdd, Nat.reduceMul, Nat.reduceBEq, Nat.reduceLT, Nat.reduceLeDiff, Nat.reduceEqDiff, reduceCtorEq, Int.reduceToNat, Int.reduceLE, Int.reduceLT, Int.reduceBEq, Int.reduceBNe, mCall, tMay_spec t hs', cells_enc, cel3, (enc_eq t).symm, h1, h2, h3, h4, h5, h6, h7, h8, hw, k0]
            rw [loop_at hloop ?hb ?hs]
            case hb => rfl
            case hs => rfl
            cases hall : allB l.length fun k => mayB (l.getD k default) && scopedB (l.getD k default) v 5
            · simp -implicitDefEqProofs (disch := decide +kernel) only [go_sem, ↓reduceIte, Nat.reduceSub, Nat.reduceAdd, Nat.reduceMul, Nat.reduceBEq, Nat.reduceLT, Nat.reduceLeDiff, Nat.reduceEqDiff, reduceCtorEq, Int.reduceToNat, Int.reduceLE, Int.reduceLT, Int.reduceBEq, Int.reduceBNe, mCall, hall]
            · have hall' := (allB_iff _ _).1 hall
              simp only [Bool.and_eq_true] at hall'
              have hsc : ∀ x ∈ l, scopedB x v 5 = true := getD_all fun k hk => (hall' k hk).2
              obtain ⟨x1, a1⟩ := mFill_spec hok t hs hv n
              have husz := fillR_size t l n
              have hkey := fun he => fillR_scoped h3 (t := t) (th := l) (n := n) (a := v) (M := 5) he h9 hsc
              obtain ⟨x2, a2⟩ := tscoped_spec (FillR t l n).1 (n + v) 5 (by omega) (calm_vle (c := 1099511627776 + 200000000) (by omega) _ 0 (by omega) (by omega) (may_parts (fillR_may t l n)).1 (fillR_vle hok hv n))
              generalize FillR t l n = rr at a1 a2 hkey ⊢
              cases he : (rr.2 != 0)
              · have he0 : rr.2 = 0 := by simpa using he
                rw [hkey he0] at a2
                simp -implicitDefEqProofs (disch := decide +kernel) only [go_sem, ↓reduceIte, Nat.reduceSub, Nat.reduceAdd, Nat.reduceMul, Nat.reduceBEq, Nat.reduceLT, Nat.reduceLeDiff, Nat.reduceEqDiff, reduceCtorEq, Int.reduceToNat, Int.reduceLE, Int.reduceLT, Int.reduceBEq, Int.reduceBNe, mCall, hall, cells_enc, cel3, (enc_eq t).symm, hw, a1, a2, he, (enc_eq rr.1).symm]
              · simp -implicitDefEqProofs (disch := decide +kernel) only [go_sem, ↓reduceIte, Nat.reduceSub, Nat.reduceAdd, Nat.reduceMul, Nat.reduceBEq, Nat.reduceLT, Nat.reduceLeDiff, Nat.reduceEqDiff, reduceCtorEq, Int.reduceToNat, Int.reduceLE, Int.reduceLT, Int.reduceBEq, Int.reduceBNe, mCall, hall, cells_enc, cel3, (enc_eq t).symm, hw, a1, he, (enc_eq rr.1).symm]
end Go.Proofs.Ytmemmdfjlhamfaa
