/- Laws of layer 3: SubstScopes. -/
import Derived.Test.YtojahppjdimdbaaF2B
set_option linter.unusedSimpArgs false
set_option linter.unusedVariables false
set_option maxRecDepth 100000
namespace Go.Proofs.Ytojahppjdimdbaa
open Go.Proofs
theorem scopes_plain {t : Tm} {l : List Tm} {mo v : Int} (h3 : mayB t = true) (hm : ∀ x ∈ l, mayB x = true) (hsc : ∀ x ∈ l, scopedB x v 1099511627776 = true) (hsm : smayB ⟨l, v - mo⟩ = true)
    (h9 : scopedB t ((l.length : Int) + mo) 1099511627776 = true) (g7 : mo ≤ v) (g0 : 0 ≤ v) : (applyR t ⟨l, v - mo⟩).2 = 0 → scopedB (applyR t ⟨l, v - mo⟩).1 v 1099511627776 = true := by
  unfold applyR
  rw [h3, hsm, Bool.and_self, if_pos rfl]
  cases hap : ap 40000 t ⟨l, v - mo⟩ 0 with
  | ok u m =>
    intro he
    cases hmu : mayB u
    · simp [outD, hmu] at he
    · simp only [outD, hmu, if_true]
      refine (ap_scoped (M := 1099511627776) 40000 t ⟨l, v - mo⟩ 0 ((l.length : Int) + mo) v u m (may_parts h3).1 h9 ⟨fun x hx => (may_parts (hm x hx)).1, by show 0 ≤ v - mo; omega⟩ ?_ g0 hap).2
      intro i hi0 hi
      unfold ofS
      split
      · rename_i hlt
        have hlt : i < (l.length : Int) := hlt
        exact hsc _ (getD_mem (show l.length - 1 - i.toNat < l.length by omega))
      · exact var_scoped (by show i - (l.length : Int) + (v - mo) < v; omega)
  | er e m =>
    intro he
    have := ap_err _ _ _ _ _ _ hap
    simp only [outD] at he
    omega
def sco_S (t : Tm) (l : List Tm) (mo v : Int) (i : Nat) : St := mk 105 [(1, dL l), (2, dI mo), (3, dI v), (4, .lref 4 0), (12, dI i)] [(4, cel3 t)] [] []
set_option maxHeartbeats 4000000 in
theorem substScopes_holds (t : Tm) (w : Wf t) (hs : t.size ≤ 1048576) (l : List Tm) (wl : ∀ t ∈ l, Wf t) (hsl : (l.map Tm.size).sum + 1 ≤ 1048576) (mo : Int) (jm : in64 mo) (v : Int) (jv : in64 v) :
    ∃ h, (lim C).call 9 [dT t, dL l, dI mo, dI v] [] = some (.ret (dB true), h) := by
  have hr : room = 1099511627776 := rfl
  have hs : t.size < room := by omega
  obtain ⟨hlr, hzr⟩ := lists_room hsl
  refine ⟨[], ?_⟩
  rw [ev_fn 9 Try.f9 _ _ _ rfl Try.func9 rfl Try.ntmps9 rfl]
  simp -implicitDefEqProofs (disch := decide +kernel) only [go_sem, ↓reduceIte, Nat.reduceSub, Nat.reduceAdd, Nat.reduceMul, Nat.reduceBEq, Nat.reduceLT, Nat.reduceLeDiff, Nat.reduceEqDiff, reduceCtorEq, Int.reduceToNat, Int.reduceLE, Int.reduceLT, Int.reduceBEq, Int.reduceBNe, mCall, awake3_spec, light_spec t _ _ hs, lights_spec l _ _ hlr hzr, tMay_spec t hs, cells_enc, cel3, (enc_eq t).symm]
  cases h1 : lightB t 300 60
  · simp -implicitDefEqProofs (disch := decide +kernel) only [go_sem, ↓reduceIte, Nat.reduceSub, Nat.reduceAdd, Nat.reduceMul, Nat.reduceBEq, Nat.reduceLT, Nat.reduceLeDiff, Nat.reduceEqDiff, reduceCtorEq, Int.reduceToNat, Int.reduceLE, Int.reduceLT, Int.reduceBEq, Int.reduceBNe, mCall, awake3_spec, light_spec t _ _ hs, lights_spec l _ _ hlr hzr, tMay_spec t hs, cells_enc, cel3, (enc_eq t).symm, h1]
  · skip
    simp -implicitDefEqProofs (disch := decide +kernel) only [go_sem, ↓reduceIte, Nat.reduceSub, Nat.reduceAdd, Nat.reduceMul, Nat.reduceBEq, Nat.reduceLT, Nat.reduceLeDiff, Nat.reduceEqDiff, reduceCtorEq, Int.reduceToNat, Int.reduceLE, Int.reduceLT, Int.reduceBEq, Int.reduceBNe, mCall, awake3_spec, light_spec t _ _ hs, lights_spec l _ _ hlr hzr, tMay_spec t hs, cells_enc, cel3, (enc_eq t).symm, h1]
    cases h2 : lightsB l 300 60
    · simp -implicitDefEqProofs (disch := decide +kernel) only [go_sem, ↓reduceIte, Nat.reduceSub, Nat.reduceAdd, Nat.reduceMul, Nat.reduceBEq, Nat.reduceLT, Nat.reduceLeDiff, Nat.reduceEqDiff, reduceCtorEq, Int.reduceToNat, Int.reduceLE, Int.reduceLT, Int.reduceBEq, Int.reduceBNe, mCall, awake3_spec, light_spec t _ _ hs, lights_spec l _ _ hlr hzr, tMay_spec t hs, cells_enc, cel3, (enc_eq t).symm, h2]
    · skip
      simp -implicitDefEqProofs (disch := decide +kernel) only [go_sem, ↓reduceIte, Nat.reduceSub, Nat.reduceAdd, Nat.reduceMul, Nat.reduceBEq, Nat.reduceLT, Nat.reduceLeDiff, Nat.reduceEqDiff, reduceCtorEq, Int.reduceToNat, Int.reduceLE, Int.reduceLT, Int.reduceBEq, Int.reduceBNe, mCall, awake3_spec, light_spec t _ _ hs, lights_spec l _ _ hlr hzr, tMay_spec t hs, cells_enc, cel3, (enc_eq t).symm, h2]
      cases h3 : mayB t
      · simp -implicitDefEqProofs (disch := decide +kernel) only [go_sem, ↓reduceIte, Nat.reduceSub, Nat.reduceAdd, Nat.reduceMul, Nat.reduceBEq, Nat.reduceLT, Nat.reduceLeDiff, Nat.reduceEqDiff, reduceCtorEq, Int.reduceToNat, Int.reduceLE, Int.reduceLT, Int.reduceBEq, Int.reduceBNe, mCall, awake3_spec, light_spec t _ _ hs, lights_spec l _ _ hlr hzr, tMay_spec t hs, cells_enc, cel3, (enc_eq t).symm, h3]
      · skip
        simp -implicitDefEqProofs (disch := decide +kernel) only [go_sem, ↓reduceIte, Nat.reduceSub, Nat.reduceAdd, Nat.reduceMul, Nat.reduceBEq, Nat.reduceLT, Nat.reduceLeDiff, Nat.reduceEqDiff, reduceCtorEq, Int.reduceToNat, Int.reduceLE, Int.reduceLT, Int.reduceBEq, Int.reduceBNe, mCall, awake3_spec, light_spec t _ _ hs, lights_spec l _ _ hlr hzr, tMay_spec t hs, cells_enc, cel3, (enc_eq t).symm, h3]
        cases h4 : decide ((l.length : Int) > 20)
        rotate_left
        · simp -implicitDefEqProofs (disch := decide +kernel) only [go_sem, ↓reduceIte, Nat.reduceSub, Nat.reduceAdd, Nat.reduceMul, Nat.reduceBEq, Nat.reduceLT, Nat.reduceLeDiff, Nat.reduceEqDiff, reduceCtorEq, Int.reduceToNat, Int.reduceLE, Int.reduceLT, Int.reduceBEq, Int.reduceBNe, mCall, awake3_spec, light_spec t _ _ hs, lights_spec l _ _ hlr hzr, tMay_spec t hs, cells_enc, cel3, (enc_eq t).symm, h4]
        simp -implicitDefEqProofs (disch := decide +kernel) only [go_sem, ↓reduceIte, Nat.reduceSub, Nat.reduceAdd, Nat.reduceMul, Nat.reduceBEq, Nat.reduceLT, Nat.reduceLeDiff, Nat.reduceEqDiff, reduceCtorEq, Int.reduceToNat, Int.reduceLE, Int.reduceLT, Int.reduceBEq, Int.reduceBNe, mCall, awake3_spec, light_spec t _ _ hs, lights_spec l _ _ hlr hzr, tMay_spec t hs, cells_enc, cel3, (enc_eq t).symm, h4]
        cases h5 : decide (mo < 0)
        rotate_left
        · simp -implicitDefEqProofs (disch := decide +kernel) only [go_sem, ↓reduceIte, Nat.reduceSub, Nat.reduceAdd, Nat.reduceMul, Nat.reduceBEq, Nat.reduceLT, Nat.reduceLeDiff, Nat.reduceEqDiff, reduceCtorEq, Int.reduceToNat, Int.reduceLE, Int.reduceLT, Int.reduceBEq, Int.reduceBNe, mCall, awake3_spec, light_spec t _ _ hs, lights_spec l _ _ hlr hzr, tMay_spec t hs, cells_enc, cel3, (enc_eq t).symm, h5]
        simp -implicitDefEqProofs (disch := decide +kernel) only [go_sem, ↓reduceIte, Nat.reduceSub, Nat.reduceAdd, Nat.reduceMul, Nat.reduceBEq, Nat.reduceLT, Nat.reduceLeDiff, Nat.reduceEqDiff, reduceCtorEq, Int.reduceToNat, Int.reduceLE, Int.reduceLT, Int.reduceBEq, Int.reduceBNe, mCall, awake3_spec, light_spec t _ _ hs, lights_spec l _ _ hlr hzr, tMay_spec t hs, cells_enc, cel3, (enc_eq t).symm, h5]
        cases h6 : decide (mo > 20)
        rotate_left
        · simp -implicitDefEqProofs (disch := decide +kernel) only [go_sem, ↓reduceIte, Nat.reduceSub, Nat.reduceAdd, Nat.reduceMul, Nat.reduceBEq, Nat.reduceLT, Nat.reduceLeDiff, Nat.reduceEqDiff, reduceCtorEq, Int.reduceToNat, Int.reduceLE, Int.reduceLT, Int.reduceBEq, Int.reduceBNe, mCall, awake3_spec, light_spec t _ _ hs, lights_spec l _ _ hlr hzr, tMay_spec t hs, cells_enc, cel3, (enc_eq t).symm, h6]
        simp -implicitDefEqProofs (disch := decide +kernel) only [go_sem, ↓reduceIte, Nat.reduceSub, Nat.reduceAdd, Nat.reduceMul, Nat.reduceBEq, Nat.reduceLT, Nat.reduceLeDiff, Nat.reduceEqDiff, reduceCtorEq, Int.reduceToNat, Int.reduceLE, Int.reduceLT, Int.reduceBEq, Int.reduceBNe, mCall, awake3_spec, light_spec t _ _ hs, lights_spec l _ _ hlr hzr, tMay_spec t hs, cells_enc, cel3, (enc_eq t).symm, h6]
        cases h7 : decide (v < mo)
        rotate_left
        · simp -implicitDefEqProofs (disch := decide +kernel) only [go_sem, ↓reduceIte, Nat.reduceSub, Nat.reduceAdd, Nat.reduceMul, Nat.reduceBEq, Nat.reduceLT, Nat.reduceLeDiff, Nat.reduceEqDiff, reduceCtorEq, Int.reduceToNat, Int.reduceLE, Int.reduceLT, Int.reduceBEq, Int.reduceBNe, mCall, awake3_spec, light_spec t _ _ hs, lights_spec l _ _ hlr hzr, tMay_spec t hs, cells_enc, cel3, (enc_eq t).symm, h7]
        simp -implicitDefEqProofs (disch := decide +kernel) only [go_sem, ↓reduceIte, Nat.reduceSub, Nat.reduceAdd, Nat.reduceMul, Nat.reduceBEq, Nat.reduceLT, Nat.reduceLeDiff, Nat.reduceEqDiff, reduceCtorEq, Int.reduceToNat, Int.reduceLE, Int.reduceLT, Int.reduceBEq, Int.reduceBNe, mCall, awake3_spec, light_spec t _ _ hs, lights_spec l _ _ hlr hzr, tMay_spec t hs, cells_enc, cel3, (enc_eq t).symm, h7]
        cases h8 : decide (v > 20)
        rotate_left
        · simp -implicitDefEqProofs (disch := decide +kernel) only [go_sem, ↓reduceIte, Nat.reduceSub, Nat.reduceAdd, Nat.reduceMul, Nat.reduceBEq, Nat.reduceLT, Nat.reduceLeDiff, Nat.reduceEqDiff, reduceCtorEq, Int.reduceToNat, Int.reduceLE, Int.reduceLT, Int.reduceBEq, Int.reduceBNe, mCall, awake3_spec, light_spec t _ _ hs, lights_spec l _ _ hlr hzr, tMay_spec t hs, cells_enc, cel3, (enc_eq t).symm, h8]
        simp -implicitDefEqProofs (disch := decide +kernel) only [go_sem, ↓reduceIte, Nat.reduceSub, Nat.reduceAdd, Nat.reduceMul, Nat.reduceBEq, Nat.reduceLT, Nat.reduceLeDiff, Nat.reduceEqDiff, reduceCtorEq, Int.reduceToNat, Int.reduceLE, Int.reduceLT, Int.reduceBEq, Int.reduceBNe, mCall, awake3_spec, light_spec t _ _ hs, lights_spec l _ _ hlr hzr, tMay_spec t hs, cells_enc, cel3, (enc_eq t).symm, h8]
        have g4 : l.length ≤ 20 := by simp at h4; omega
        have g5 : 0 ≤ mo := by simp at h5; omega
        have g6 : mo ≤ 20 := by simp at h6; omega
        have g7 : mo ≤ v := by simp at h7; omega
        have g8 : v ≤ 20 := by simp at h8; omega
        obtain ⟨hlen, hli⟩ := lights_parts h2
        have hv := vle_low (light_low h1)
        have hvl : ∀ x ∈ l, vleB 1099511627776 x = true := fun x hx => vle_low (light_low (hli x hx))
        have hw1 : IntKind.wrap .i64 ((l.length : Int) + mo) = (l.length : Int) + mo := wrap_ok (by omega) (by omega)
        have hw2 : IntKind.wrap .i64 (v - mo) = v - mo := wrap_ok (by omega) (by omega)
        obtain ⟨x0, k0⟩ := tscoped_spec t ((l.length : Int) + mo) 1099511627776 hs (calm_vle (c := 1099511627776) (by omega) t 0 (by omega) (by omega) (may_parts h3).1 hv)
        cases h9 : scopedB t ((l.length : Int) + mo) 1099511627776
        · rw [h9] at k0
          simp -implicitDefEqProofs (disch := decide +kernel) only [go_sem, ↓reduceIte, Nat.reduceSub, Nat.reduceAdd, Nat.reduceMul, Nat.reduceBEq, Nat.reduceLT, Nat.reduceLeDiff, Nat.reduceEqDiff, reduceCtorEq, Int.reduceToNat, Int.reduceLE, Int.reduceLT, Int.reduceBEq, Int.reduceBNe, mCall, awake3_spec, light_spec t _ _ hs, lights_spec l _ _ hlr hzr, tMay_spec t hs, cells_enc, cel3, (enc_eq t).symm, h1, h2, h3, h4, h5, h6, h7, h8, hw1, k0]
        · rw [h9] at k0
          have hgood : ∀ k, k < l.length → ∃ h, (mayB (l.getD k default) = true → (lim C).call 26 [dT (l.getD k default), dI v, dI 1099511627776] [] = some (.ret (dB (scopedB (l.getD k default) v 1099511627776)), h)) := fun k hk => by
            by_cases hm : mayB (l.getD k default) = true
            · obtain ⟨h, hh⟩ := tscoped_spec (l.getD k default) v 1099511627776 (hzr _ (getD_mem hk)) (calm_vle (c := 1099511627776) (by omega) _ 0 (by omega) (by have := hzr _ (getD_mem hk); omega) (may_parts hm).1 (hvl _ (getD_mem hk)))
              exact ⟨h, fun _ => hh⟩
            · exact ⟨[], fun e => absurd e hm⟩
          have hloop : (lim C).code 9 (.loop (cf (cf (cs (cf (cs (cs (cs (cs (cs (bodyOf Try.f9))))))))))) (sco_S t l mo v 0) = some (if allB l.length (fun k => mayB (l.getD k default) && scopedB (l.getD k default) v 1099511627776) then (.exit 0, mk 105 [(1, dL l), (2, dI mo), (3, dI v), (4, .lref 4 0), (12, dI l.length), (70, dB false)] [(4, cel3 t)] [] []) else (.ret, mk 105 [(8, dB true)] [] [] [])) := by
            refine loop_all (sco_S t l mo v) l.length _ (fun k hk hp => ?_) (fun k hk hp => ?_) ?_ (by simp) (by simp)
            · simp only [Bool.and_eq_true] at hp
              obtain ⟨hp1, hp2⟩ := hp
              have hc := tMay_spec (l.getD k default) (hzr _ (getD_mem hk))
              obtain ⟨h, hsc⟩ := hgood k hk
              have hsc := hsc hp1
              rw [hp1] at hc
              rw [hp2] at hsc
              simp -implicitDefEqProofs (disch := decide +kernel) only [cf, cs, bodyOf, Try.f9, Option.getD_some, go_sem, ↓reduceIte, Nat.reduceSub, Nat.reduceAdd, Nat.reduceMul, Nat.reduceBEq, Nat.reduceLT, Nat.reduceLeDiff, Nat.reduceEqDiff, reduceCtorEq, Int.reduceToNat, Int.reduceLE, Int.reduceLT, Int.reduceBEq, Int.reduceBNe, mCall, sco_S, cel3, lt_true hk, getD_get hk, hc, hsc, wrap_succ (n := k) (by omega)]
            · have hc := tMay_spec (l.getD k default) (hzr _ (getD_mem hk))
              obtain ⟨h, hsc⟩ := hgood k hk
              cases hp1 : mayB (l.getD k default)
              · rw [hp1] at hc
                simp -implicitDefEqProofs (disch := decide +kernel) only [cf, cs, bodyOf, Try.f9, Option.getD_some, go_sem, ↓reduceIte, Nat.reduceSub, Nat.reduceAdd, Nat.reduceMul, Nat.reduceBEq, Nat.reduceLT, Nat.reduceLeDiff, Nat.reduceEqDiff, reduceCtorEq, Int.reduceToNat, Int.reduceLE, Int.reduceLT, Int.reduceBEq, Int.reduceBNe, mCall, sco_S, cel3, lt_true hk, getD_get hk, hc]
              · have hsc := hsc hp1
                rw [hp1] at hc hp
                have hp2 : scopedB (l.getD k default) v 1099511627776 = false := by simpa using hp
                rw [hp2] at hsc
                simp -implicitDefEqProofs (disch := decide +kernel) only [cf, cs, bodyOf, Try.f9, Option.getD_some, go_sem, ↓reduceIte, Nat.reduceSub, Nat.reduceAdd, Nat.reduceMul, Nat.reduceBEq, Nat.reduceLT, Nat.reduceLeDiff, Nat.reduceEqDiff, reduceCtorEq, Int.reduceToNat, Int.reduceLE, Int.reduceLT, Int.reduceBEq, Int.reduceBNe, mCall, sco_S, cel3, lt_true hk, getD_get hk, hc, hsc]
            · simp -implicitDefEqProofs (disch := decide +kernel) only [cf, cs, bodyOf, Try.f9, Option.getD_some, go_sem, ↓reduceIte, Nat.reduceSub, Nat.reduceAdd, Nat.reduceMul, Nat.reduceBEq, Nat.reduceLT, Nat.reduceLeDiff, Nat.reduceEqDiff, reduceCtorEq, Int.reduceToNat, Int.reduceLE, Int.reduceLT, Int.reduceBEq, Int.reduceBNe, mCall, sco_S, cel3, lt_false (Nat.le_refl l.length)]
          simp -implicitDefEqProofs (disch := decide +kernel) only [go_sem, ↓reduceIte, Nat.reduceSub, Nat.reduceAdd, Nat.reduceMul, Nat.reduceBEq, Nat.reduceLT, Nat.reduceLeDiff, Nat.reduceEqDiff, reduceCtorEq, Int.reduceToNat, Int.reduceLE, Int.reduceLT, Int.reduceBEq, Int.reduceBNe, mCall, awake3_spec, light_spec t _ _ hs, lights_spec l _ _ hlr hzr, tMay_spec t hs, cells_enc, cel3, (enc_eq t).symm, h1, h2, h3, h4, h5, h6, h7, h8, hw1, k0]
          rw [loop_at hloop ?hb ?hs]
          case hb => rfl
          case hs => rfl
          cases hall : allB l.length fun k => mayB (l.getD k default) && scopedB (l.getD k default) v 1099511627776
          · simp -implicitDefEqProofs (disch := decide +kernel) only [go_sem, ↓reduceIte, Nat.reduceSub, Nat.reduceAdd, Nat.reduceMul, Nat.reduceBEq, Nat.reduceLT, Nat.reduceLeDiff, Nat.reduceEqDiff, reduceCtorEq, Int.reduceToNat, Int.reduceLE, Int.reduceLT, Int.reduceBEq, Int.reduceBNe, mCall, hall]
          · have hall' := (allB_iff _ _).1 hall
            simp only [Bool.and_eq_true] at hall'
            have hm : ∀ x ∈ l, mayB x = true := getD_all fun k hk => (hall' k hk).1
            have hsc : ∀ x ∈ l, scopedB x v 1099511627776 = true := getD_all fun k hk => (hall' k hk).2
            have hsm : smayB ⟨l, v - mo⟩ = true := smay_of (by omega) (by omega) (by omega) hm
            obtain ⟨x1, a1⟩ := sapply_spec t ⟨l, v - mo⟩ hs hzr hlr (vle_mono (by decide) hv) (fun x hx => vle_mono (by decide) (hvl x hx))
            have hum := applyR_may t ⟨l, v - mo⟩
            have huv := applyR_vle (t := t) (s := ⟨l, v - mo⟩) (K := 1099511627776) (by omega) hv hvl
            have husz := (may_parts hum).2.1
            obtain ⟨x2, a2⟩ := tscoped_spec (applyR t ⟨l, v - mo⟩).1 v 1099511627776 (by omega) (calm_vle (c := 1099511627776 + 2000000) (by omega) _ 0 (by omega) (by omega) (may_parts hum).1 huv)
            have hkey := scopes_plain h3 hm hsc hsm h9 (by omega) (by omega)
            have hes := encS_mk l (v - mo)
            cases he : ((applyR t ⟨l, v - mo⟩).2 != 0)
            · have he0 : (applyR t ⟨l, v - mo⟩).2 = 0 := by simpa using he
              rw [hkey he0] at a2
              simp -implicitDefEqProofs (disch := decide +kernel) only [go_sem, ↓reduceIte, Nat.reduceSub, Nat.reduceAdd, Nat.reduceMul, Nat.reduceBEq, Nat.reduceLT, Nat.reduceLeDiff, Nat.reduceEqDiff, reduceCtorEq, Int.reduceToNat, Int.reduceLE, Int.reduceLT, Int.reduceBEq, Int.reduceBNe, mCall, hall, cells_enc, cel3, (enc_eq t).symm, hw2, hes, a1, a2, he, (enc_eq (applyR t ⟨l, v - mo⟩).1).symm]
            · simp -implicitDefEqProofs (disch := decide +kernel) only [go_sem, ↓reduceIte, Nat.reduceSub, Nat.reduceAdd, Nat.reduceMul, Nat.reduceBEq, Nat.reduceLT, Nat.reduceLeDiff, Nat.reduceEqDiff, reduceCtorEq, Int.reduceToNat, Int.reduceLE, Int.reduceLT, Int.reduceBEq, Int.reduceBNe, mCall, hall, cells_enc, cel3, (enc_eq t).symm, hw2, hes, a1, he, (enc_eq (applyR t ⟨l, v - mo⟩).1).symm]
end Go.Proofs.Ytojahppjdimdbaa
