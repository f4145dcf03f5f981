/- Law of layer 4: MetaTwice. -/
import Derived.Test.YtobocgjdlchemaaB2
set_option linter.unusedSimpArgs false
set_option linter.unusedVariables false
set_option maxRecDepth 100000
namespace Go.Proofs.Ytobocgjdlchemaa
open Go.Proofs
theorem eachR_few {F : Nat → Tm × Int} {k : Nat} (h : ∀ i, (F i).1.size ≤ 4000) : (eachR F k).1.length ≤ k ∧ ∀ x ∈ (eachR F k).1, x.size ≤ 4000 := by
  unfold eachR
  split
  · refine ⟨by simp [outs], fun x hx => ?_⟩
    simp only [outs, List.mem_map] at hx
    obtain ⟨i, _, rfl⟩ := hx
    exact h i
  · simp
def zeros (n : Nat) : List Int := List.replicate n 0
theorem zeros_enc (n : Nat) : List.replicate n (Dv.int .i64 0) = encIs (zeros n) := by
  simp only [zeros, encIs, List.map_replicate]
  rfl
theorem zeros_len (n : Nat) : (zeros n).length = n := by simp [zeros]
theorem zeros_get {n i : Nat} (h : i < n) : (zeros n).getD i 0 = 0 := by
  rw [List.getD_eq_getElem?_getD]
  unfold zeros
  rw [List.getElem?_replicate, if_pos h]; rfl
theorem all_zeros {l et : List Tm} (h : (AllR l et (zeros l.length)).2 = 0) : (∀ x ∈ l, (FillR x et 0).2 = 0) ∧ (AllR l et (zeros l.length)).1 = l.map fun x => (FillR x et 0).1 := by
  unfold AllR at h ⊢
  rw [if_pos (zeros_len _)] at h ⊢
  obtain ⟨h1, h2⟩ := eachR_ok h
  constructor
  · refine getD_all fun i hi => ?_
    have := h1 i hi
    rwa [zeros_get hi] at this
  · rw [h2]
    simp only [outs]
    refine List.ext_getElem? fun i => ?_
    rw [List.getElem?_map, List.getElem?_map]
    by_cases hi : i < l.length
    · rw [List.getElem?_range hi, List.getElem?_eq_getElem hi]
      simp only [Option.map_some, zeros_get hi]
      congr 3
      rw [List.getD_eq_getElem?_getD, List.getElem?_eq_getElem hi]; rfl
    · rw [List.getElem?_eq_none (by simpa using hi), List.getElem?_eq_none (by simpa using hi)]; rfl
theorem all_few (l th : List Tm) (ns : List Int) : (AllR l th ns).1.length ≤ l.length ∧ ∀ x ∈ (AllR l th ns).1, x.size ≤ 4000 := by
  unfold AllR
  split
  · exact eachR_few fun i => fillR_size _ _ _
  · simp
theorem all_vle {l th : List Tm} {K : Int} (h : ThOk K th) (hv : ∀ x ∈ l, vleB K x = true) (ns : List Int) : ∀ x ∈ (AllR l th ns).1, vleB (K + 200000000) x = true := by
  intro x hx
  unfold AllR at hx
  split at hx
  · unfold eachR at hx
    split at hx
    · simp only [outs, List.mem_map, List.mem_range] at hx
      obtain ⟨i, hi, rfl⟩ := hx
      exact fillR_vle h (hv _ (getD_mem hi)) _
    · simp at hx
  · simp at hx
def mtw_S1 (t : Tm) (th et : List Tm) (i : Nat) : St := mk 135 [(1, dL th), (2, dL et), (3, .lref 3 0), (12, dI i)] [(3, cel3 t)] [] []
def mtw_S2 (t : Tm) (th et : List Tm) (i : Nat) : St := mk 135 [(1, dL th), (2, dL et), (3, .lref 3 0), (14, dI i)] [(3, cel3 t)] [] []
set_option maxHeartbeats 4000000 in
theorem mtw_loop1 (t : Tm) (l e : List Tm) (hlr : l.length < room) (hzr : ∀ x ∈ l, x.size < room) (her : e.length < room) (hze : ∀ x ∈ e, x.size < room) : (lim C).code 5 (.loop (cf (cf (cs (cf (cs (cs (cs (cs (cs (cs (cs (bodyOf Try.f5))))))))))))) (mtw_S1 t l e 0) = some (if allB l.length (fun k => bareB (l.getD k default) && mayB (l.getD k default)) then (.exit 0, mk 135 [(1, dL l), (2, dL e), (3, .lref 3 0), (12, dI l.length), (59, dB false)] [(3, cel3 t)] [] []) else (.ret, mk 135 [(6, dB true)] [] [] [])) := by
  have hr : room = 1099511627776 := rfl
  refine loop_all (mtw_S1 t l e) l.length _ (fun k hk hp => ?_) (fun k hk hp => ?_) ?_ (by simp) (by simp)
  · simp only [Bool.and_eq_true] at hp
    obtain ⟨hp1, hp2⟩ := hp
    have hc := bare_spec (l.getD k default) (hzr _ (getD_mem hk))
    have hd := tMay_spec (l.getD k default) (hzr _ (getD_mem hk))
    rw [hp1] at hc
    rw [hp2] at hd
    simp -implicitDefEqProofs (disch := decide +kernel) only [cf, cs, bodyOf, Try.f5, Option.getD_some, go_sem, ↓reduceIte, Nat.reduceSub, Nat.reduceAdd, Nat.reduceMul, Nat.reduceBEq, Nat.reduceLT, Nat.reduceLeDiff, Nat.reduceEqDiff, reduceCtorEq, Int.reduceToNat, Int.reduceLE, Int.reduceLT, Int.reduceBEq, Int.reduceBNe, mCall, mtw_S1, cel3, lt_true hk, getD_get hk, hc, hd, wrap_succ (n := k) (by omega)]
  · have hc := bare_spec (l.getD k default) (hzr _ (getD_mem hk))
    have hd := tMay_spec (l.getD k default) (hzr _ (getD_mem hk))
    cases hp1 : bareB (l.getD k default)
    · rw [hp1] at hc
      simp -implicitDefEqProofs (disch := decide +kernel) only [cf, cs, bodyOf, Try.f5, Option.getD_some, go_sem, ↓reduceIte, Nat.reduceSub, Nat.reduceAdd, Nat.reduceMul, Nat.reduceBEq, Nat.reduceLT, Nat.reduceLeDiff, Nat.reduceEqDiff, reduceCtorEq, Int.reduceToNat, Int.reduceLE, Int.reduceLT, Int.reduceBEq, Int.reduceBNe, mCall, mtw_S1, cel3, lt_true hk, getD_get hk, hc]
    · rw [hp1] at hc hp
      have hp2 : mayB (l.getD k default) = false := by simpa using hp
      rw [hp2] at hd
      simp -implicitDefEqProofs (disch := decide +kernel) only [cf, cs, bodyOf, Try.f5, Option.getD_some, go_sem, ↓reduceIte, Nat.reduceSub, Nat.reduceAdd, Nat.reduceMul, Nat.reduceBEq, Nat.reduceLT, Nat.reduceLeDiff, Nat.reduceEqDiff, reduceCtorEq, Int.reduceToNat, Int.reduceLE, Int.reduceLT, Int.reduceBEq, Int.reduceBNe, mCall, mtw_S1, cel3, lt_true hk, getD_get hk, hc, hd]
  · simp -implicitDefEqProofs (disch := decide +kernel) only [cf, cs, bodyOf, Try.f5, Option.getD_some, go_sem, ↓reduceIte, Nat.reduceSub, Nat.reduceAdd, Nat.reduceMul, Nat.reduceBEq, Nat.reduceLT, Nat.reduceLeDiff, Nat.reduceEqDiff, reduceCtorEq, Int.reduceToNat, Int.reduceLE, Int.reduceLT, Int.reduceBEq, Int.reduceBNe, mCall, mtw_S1, cel3, lt_false (Nat.le_refl l.length)]
set_option maxHeartbeats 4000000 in
theorem mtw_loop2 (t : Tm) (l e : List Tm) (hlr : l.length < room) (hzr : ∀ x ∈ l, x.size < room) (her : e.length < room) (hze : ∀ x ∈ e, x.size < room) : (lim C).code 5 (.loop (cf (cf (cs (cf (cs (cs (cs (cs (cs (cs (cs (cs (bodyOf Try.f5)))))))))))))) (mtw_S2 t l e 0) = some (if allB e.length (fun k => mayB (e.getD k default)) then (.exit 2, mk 135 [(1, dL l), (2, dL e), (3, .lref 3 0), (14, dI e.length), (80, dB false)] [(3, cel3 t)] [] []) else (.ret, mk 135 [(6, dB true)] [] [] [])) := by
  have hr : room = 1099511627776 := rfl
  refine loop_all (mtw_S2 t l e) e.length _ (fun k hk hp => ?_) (fun k hk hp => ?_) ?_ (by simp) (by simp)
  · have hd := tMay_spec (e.getD k default) (hze _ (getD_mem hk))
    rw [hp] at hd
    simp -implicitDefEqProofs (disch := decide +kernel) only [cf, cs, bodyOf, Try.f5, Option.getD_some, go_sem, ↓reduceIte, Nat.reduceSub, Nat.reduceAdd, Nat.reduceMul, Nat.reduceBEq, Nat.reduceLT, Nat.reduceLeDiff, Nat.reduceEqDiff, reduceCtorEq, Int.reduceToNat, Int.reduceLE, Int.reduceLT, Int.reduceBEq, Int.reduceBNe, mCall, mtw_S2, cel3, lt_true hk, getD_get hk, hd, wrap_succ (n := k) (by omega)]
  · have hd := tMay_spec (e.getD k default) (hze _ (getD_mem hk))
    rw [hp] at hd
    simp -implicitDefEqProofs (disch := decide +kernel) only [cf, cs, bodyOf, Try.f5, Option.getD_some, go_sem, ↓reduceIte, Nat.reduceSub, Nat.reduceAdd, Nat.reduceMul, Nat.reduceBEq, Nat.reduceLT, Nat.reduceLeDiff, Nat.reduceEqDiff, reduceCtorEq, Int.reduceToNat, Int.reduceLE, Int.reduceLT, Int.reduceBEq, Int.reduceBNe, mCall, mtw_S2, cel3, lt_true hk, getD_get hk, hd]
  · simp -implicitDefEqProofs (disch := decide +kernel) only [cf, cs, bodyOf, Try.f5, Option.getD_some, go_sem, ↓reduceIte, Nat.reduceSub, Nat.reduceAdd, Nat.reduceMul, Nat.reduceBEq, Nat.reduceLT, Nat.reduceLeDiff, Nat.reduceEqDiff, reduceCtorEq, Int.reduceToNat, Int.reduceLE, Int.reduceLT, Int.reduceBEq, Int.reduceBNe, mCall, mtw_S2, cel3, lt_false (Nat.le_refl e.length)]
set_option maxHeartbeats 4000000 in
theorem metaTwice_holds (t : Tm) (w : Wf t) (hs : t.size ≤ 1048576) (l : List Tm) (wl : ∀ t ∈ l, Wf t) (hsl : (l.map Tm.size).sum + 1 ≤ 1048576) (e : List Tm) (we : ∀ t ∈ e, Wf t) (hse : (e.map Tm.size).sum + 1 ≤ 1048576) :
    ∃ h, (lim C).call 5 [dT t, dL l, dL e] [] = some (.ret (dB true), h) := by
  have hr : room = 1099511627776 := rfl
  have hs' : t.size < room := by omega
  obtain ⟨hlr, hzr⟩ := lists_room hsl
  obtain ⟨her, hze⟩ := lists_room hse
  refine ⟨[], ?_⟩
  rw [ev_fn 5 Try.f5 _ _ _ rfl Try.func5 rfl Try.ntmps5 rfl]
  simp -implicitDefEqProofs (disch := decide +kernel) only [go_sem, ↓reduceIte, Nat.reduceSub, Nat.reduceAdd, Nat.reduceMul, Nat.reduceBEq, Nat.reduceLT, Nat.reduceLeDiff, Nat.reduceEqDiff, reduceCtorEq, Int.reduceToNat, Int.reduceLE, Int.reduceLT, Int.reduceBEq, Int.reduceBNe, mCall, awake4_spec, light_spec t _ _ hs', lights_spec l _ _ hlr hzr, lights_spec e _ _ her hze, bare_spec t hs', tMay_spec t hs', cells_enc, cel3, (enc_eq t).symm]
  cases h1 : lightB t 200 60
  · simp -implicitDefEqProofs (disch := decide +kernel) only [go_sem, ↓reduceIte, Nat.reduceSub, Nat.reduceAdd, Nat.reduceMul, Nat.reduceBEq, Nat.reduceLT, Nat.reduceLeDiff, Nat.reduceEqDiff, reduceCtorEq, Int.reduceToNat, Int.reduceLE, Int.reduceLT, Int.reduceBEq, Int.reduceBNe, mCall, awake4_spec, light_spec t _ _ hs', lights_spec l _ _ hlr hzr, lights_spec e _ _ her hze, bare_spec t hs', tMay_spec t hs', cells_enc, cel3, (enc_eq t).symm, h1]
  · skip
    simp -implicitDefEqProofs (disch := decide +kernel) only [go_sem, ↓reduceIte, Nat.reduceSub, Nat.reduceAdd, Nat.reduceMul, Nat.reduceBEq, Nat.reduceLT, Nat.reduceLeDiff, Nat.reduceEqDiff, reduceCtorEq, Int.reduceToNat, Int.reduceLE, Int.reduceLT, Int.reduceBEq, Int.reduceBNe, mCall, awake4_spec, light_spec t _ _ hs', lights_spec l _ _ hlr hzr, lights_spec e _ _ her hze, bare_spec t hs', tMay_spec t hs', cells_enc, cel3, (enc_eq t).symm, h1]
    cases h2 : lightsB l 200 60
    · simp -implicitDefEqProofs (disch := decide +kernel) only [go_sem, ↓reduceIte, Nat.reduceSub, Nat.reduceAdd, Nat.reduceMul, Nat.reduceBEq, Nat.reduceLT, Nat.reduceLeDiff, Nat.reduceEqDiff, reduceCtorEq, Int.reduceToNat, Int.reduceLE, Int.reduceLT, Int.reduceBEq, Int.reduceBNe, mCall, awake4_spec, light_spec t _ _ hs', lights_spec l _ _ hlr hzr, lights_spec e _ _ her hze, bare_spec t hs', tMay_spec t hs', cells_enc, cel3, (enc_eq t).symm, h2]
    · skip
      simp -implicitDefEqProofs (disch := decide +kernel) only [go_sem, ↓reduceIte, Nat.reduceSub, Nat.reduceAdd, Nat.reduceMul, Nat.reduceBEq, Nat.reduceLT, Nat.reduceLeDiff, Nat.reduceEqDiff, reduceCtorEq, Int.reduceToNat, Int.reduceLE, Int.reduceLT, Int.reduceBEq, Int.reduceBNe, mCall, awake4_spec, light_spec t _ _ hs', lights_spec l _ _ hlr hzr, lights_spec e _ _ her hze, bare_spec t hs', tMay_spec t hs', cells_enc, cel3, (enc_eq t).symm, h2]
      cases h3 : lightsB e 200 60
      · simp -implicitDefEqProofs (disch := decide +kernel) only [go_sem, ↓reduceIte, Nat.reduceSub, Nat.reduceAdd, Nat.reduceMul, Nat.reduceBEq, Nat.reduceLT, Nat.reduceLeDiff, Nat.reduceEqDiff, reduceCtorEq, Int.reduceToNat, Int.reduceLE, Int.reduceLT, Int.reduceBEq, Int.reduceBNe, mCall, awake4_spec, light_spec t _ _ hs', lights_spec l _ _ hlr hzr, lights_spec e _ _ her hze, bare_spec t hs', tMay_spec t hs', cells_enc, cel3, (enc_eq t).symm, h3]
      · skip
        simp -implicitDefEqProofs (disch := decide +kernel) only [go_sem, ↓reduceIte, Nat.reduceSub, Nat.reduceAdd, Nat.reduceMul, Nat.reduceBEq, Nat.reduceLT, Nat.reduceLeDiff, Nat.reduceEqDiff, reduceCtorEq, Int.reduceToNat, Int.reduceLE, Int.reduceLT, Int.reduceBEq, Int.reduceBNe, mCall, awake4_spec, light_spec t _ _ hs', lights_spec l _ _ hlr hzr, lights_spec e _ _ her hze, bare_spec t hs', tMay_spec t hs', cells_enc, cel3, (enc_eq t).symm, h3]
        cases h4 : bareB t
        · simp -implicitDefEqProofs (disch := decide +kernel) only [go_sem, ↓reduceIte, Nat.reduceSub, Nat.reduceAdd, Nat.reduceMul, Nat.reduceBEq, Nat.reduceLT, Nat.reduceLeDiff, Nat.reduceEqDiff, reduceCtorEq, Int.reduceToNat, Int.reduceLE, Int.reduceLT, Int.reduceBEq, Int.reduceBNe, mCall, awake4_spec, light_spec t _ _ hs', lights_spec l _ _ hlr hzr, lights_spec e _ _ her hze, bare_spec t hs', tMay_spec t hs', cells_enc, cel3, (enc_eq t).symm, h4]
        · skip
          simp -implicitDefEqProofs (disch := decide +kernel) only [go_sem, ↓reduceIte, Nat.reduceSub, Nat.reduceAdd, Nat.reduceMul, Nat.reduceBEq, Nat.reduceLT, Nat.reduceLeDiff, Nat.reduceEqDiff, reduceCtorEq, Int.reduceToNat, Int.reduceLE, Int.reduceLT, Int.reduceBEq, Int.reduceBNe, mCall, awake4_spec, light_spec t _ _ hs', lights_spec l _ _ hlr hzr, lights_spec e _ _ her hze, bare_spec t hs', tMay_spec t hs', cells_enc, cel3, (enc_eq t).symm, h4]
          cases h5 : mayB t
          · simp -implicitDefEqProofs (disch := decide +kernel) only [go_sem, ↓reduceIte, Nat.reduceSub, Nat.reduceAdd, Nat.reduceMul, Nat.reduceBEq, Nat.reduceLT, Nat.reduceLeDiff, Nat.reduceEqDiff, reduceCtorEq, Int.reduceToNat, Int.reduceLE, Int.reduceLT, Int.reduceBEq, Int.reduceBNe, mCall, awake4_spec, light_spec t _ _ hs', lights_spec l _ _ hlr hzr, lights_spec e _ _ her hze, bare_spec t hs', tMay_spec t hs', cells_enc, cel3, (enc_eq t).symm, h5]
          · skip
            simp -implicitDefEqProofs (disch := decide +kernel) only [go_sem, ↓reduceIte, Nat.reduceSub, Nat.reduceAdd, Nat.reduceMul, Nat.reduceBEq, Nat.reduceLT, Nat.reduceLeDiff, Nat.reduceEqDiff, reduceCtorEq, Int.reduceToNat, Int.reduceLE, Int.reduceLT, Int.reduceBEq, Int.reduceBNe, mCall, awake4_spec, light_spec t _ _ hs', lights_spec l _ _ hlr hzr, lights_spec e _ _ her hze, bare_spec t hs', tMay_spec t hs', cells_enc, cel3, (enc_eq t).symm, h5]
            have hok := lights_ok h2 hzr
            have hoe := lights_ok h3 hze
            have hv := vle_low (light_low h1)
            obtain ⟨hlen, hli⟩ := lights_parts h2
            have hloop1 := mtw_loop1 t l e hlr hzr her hze
            have hloop2 := mtw_loop2 t l e hlr hzr her hze
            rw [loop_at hloop1 ?hb ?hs]
            case hb => rfl
            case hs => rfl
            cases hall1 : allB l.length fun k => bareB (l.getD k default) && mayB (l.getD k default)
            · simp -implicitDefEqProofs (disch := decide +kernel) only [go_sem, ↓reduceIte, Nat.reduceSub, Nat.reduceAdd, Nat.reduceMul, Nat.reduceBEq, Nat.reduceLT, Nat.reduceLeDiff, Nat.reduceEqDiff, reduceCtorEq, Int.reduceToNat, Int.reduceLE, Int.reduceLT, Int.reduceBEq, Int.reduceBNe, mCall, hall1]
            · have hall1' := (allB_iff _ _).1 hall1
              simp only [Bool.and_eq_true] at hall1'
              have hbl : ∀ x ∈ l, bareB x = true := getD_all fun k hk => (hall1' k hk).1
              simp -implicitDefEqProofs (disch := decide +kernel) only [go_sem, ↓reduceIte, Nat.reduceSub, Nat.reduceAdd, Nat.reduceMul, Nat.reduceBEq, Nat.reduceLT, Nat.reduceLeDiff, Nat.reduceEqDiff, reduceCtorEq, Int.reduceToNat, Int.reduceLE, Int.reduceLT, Int.reduceBEq, Int.reduceBNe, mCall, hall1]
              rw [loop_at hloop2 ?hb ?hs]
              case hb => rfl
              case hs => rfl
              cases hall2 : allB e.length fun k => mayB (e.getD k default)
              · simp -implicitDefEqProofs (disch := decide +kernel) only [go_sem, ↓reduceIte, Nat.reduceSub, Nat.reduceAdd, Nat.reduceMul, Nat.reduceBEq, Nat.reduceLT, Nat.reduceLeDiff, Nat.reduceEqDiff, reduceCtorEq, Int.reduceToNat, Int.reduceLE, Int.reduceLT, Int.reduceBEq, Int.reduceBNe, mCall, hall2]
              · have hlo : LOk 1099511627776 l := ⟨by omega, fun x hx => ⟨by have := sum_mem (List.mem_map_of_mem (f := Tm.size) hx); omega, vle_low (light_low (hli x hx))⟩⟩
                have hoe2 : ThOk (1099511627776 + 200000000) e := ⟨by omega, by decide, by omega, fun x hx => ⟨hze x hx, vle_mono (by omega) (hoe.all x hx).2⟩⟩
                have z1 := fillR_size t l 0
                have v1 := fillR_vle hok hv 0
                obtain ⟨x1, a1⟩ := mFill_spec hok t hs hv 0
                obtain ⟨x2, a2⟩ := mFill_spec hoe2 (FillR t l 0).1 (by omega) v1 0
                obtain ⟨x3, a3⟩ := mAll_spec hoe l hlo (zeros l.length)
                obtain ⟨q1, q2⟩ := all_few l e (zeros l.length)
                have q3 := all_vle hoe (fun x hx => (hlo.all x hx).2) (zeros l.length)
                have hol : ThOk (1099511627776 + 200000000) (AllR l e (zeros l.length)).1 := ⟨by omega, by decide, by omega, fun x hx => ⟨by have := q2 x hx; omega, q3 x hx⟩⟩
                obtain ⟨x4, a4⟩ := mFill_spec hol t hs (vle_mono (by omega) hv) 0
                have z2 := fillR_size (FillR t l 0).1 e 0
                have z4 := fillR_size t (AllR l e (zeros l.length)).1 0
                have hkey := fun (k1 : (FillR t l 0).2 = 0) (k2 : (FillR (FillR t l 0).1 e 0).2 = 0) (k3 : (AllR l e (zeros l.length)).2 = 0) (k4 : (FillR t (AllR l e (zeros l.length)).1 0).2 = 0) =>
                  fillR_twice h4 hbl k1 k2 (all_zeros k3).2 (all_zeros k3).1 k4
                generalize FillR t (AllR l e (zeros l.length)).1 0 = r4 at a4 z4 hkey
                generalize AllR l e (zeros l.length) = r3 at a3 a4 hkey
                generalize FillR (FillR t l 0).1 e 0 = r2 at a2 z2 hkey
                generalize FillR t l 0 = r1 at a1 a2 z1 hkey
                have hw0 : ((l.length : Int) ≤ 1000000) = True := by simp; omega
                have hw1 : ((0 : Int) ≤ (l.length : Int)) = True := by simp
                have hs4 := tsame_spec r2.1 (by omega) r4.1
                simp -implicitDefEqProofs (disch := decide +kernel) only [go_sem, ↓reduceIte, Nat.reduceSub, Nat.reduceAdd, Nat.reduceMul, Nat.reduceBEq, Nat.reduceLT, Nat.reduceLeDiff, Nat.reduceEqDiff, reduceCtorEq, Int.reduceToNat, Int.reduceLE, Int.reduceLT, Int.reduceBEq, Int.reduceBNe, mCall, hall2, cells_enc, cel3, (enc_eq t).symm, (enc_eq r1.1).symm, a1]
                simp -implicitDefEqProofs (disch := decide +kernel) only [go_sem, ↓reduceIte, Nat.reduceSub, Nat.reduceAdd, Nat.reduceMul, Nat.reduceBEq, Nat.reduceLT, Nat.reduceLeDiff, Nat.reduceEqDiff, reduceCtorEq, Int.reduceToNat, Int.reduceLE, Int.reduceLT, Int.reduceBEq, Int.reduceBNe, mCall, cells_enc, cel3, (enc_eq t).symm, (enc_eq r1.1).symm, (enc_eq r2.1).symm, a2]
                simp -implicitDefEqProofs (disch := decide +kernel) only [go_sem, ↓reduceIte, Nat.reduceSub, Nat.reduceAdd, Nat.reduceMul, Nat.reduceBEq, Nat.reduceLT, Nat.reduceLeDiff, Nat.reduceEqDiff, reduceCtorEq, Int.reduceToNat, Int.reduceLE, Int.reduceLT, Int.reduceBEq, Int.reduceBNe, mCall, cells_enc, cel3, (enc_eq t).symm, (enc_eq r1.1).symm, (enc_eq r2.1).symm, mkDec, hw0, hw1, zeros_enc, a3]
                simp -implicitDefEqProofs (disch := decide +kernel) only [go_sem, ↓reduceIte, Nat.reduceSub, Nat.reduceAdd, Nat.reduceMul, Nat.reduceBEq, Nat.reduceLT, Nat.reduceLeDiff, Nat.reduceEqDiff, reduceCtorEq, Int.reduceToNat, Int.reduceLE, Int.reduceLT, Int.reduceBEq, Int.reduceBNe, mCall, cells_enc, cel3, (enc_eq t).symm, (enc_eq r2.1).symm, (enc_eq r4.1).symm, a4]
                clear a1 a2 a3 a4
                cases k1 : (r1.2 != 0)
                · cases k2 : (r2.2 != 0)
                  · cases k3 : (r3.2 != 0)
                    · cases k4 : (r4.2 != 0)
                      · have hk := hkey (by simpa using k1) (by simpa using k2) (by simpa using k3) (by simpa using k4)
                        have hq : sameB r2.1 r4.1 = true := by rw [hk]; exact sameB_refl _
                        rw [hq] at hs4
                        simp -implicitDefEqProofs (disch := decide +kernel) only [go_sem, ↓reduceIte, Nat.reduceSub, Nat.reduceAdd, Nat.reduceMul, Nat.reduceBEq, Nat.reduceLT, Nat.reduceLeDiff, Nat.reduceEqDiff, reduceCtorEq, Int.reduceToNat, Int.reduceLE, Int.reduceLT, Int.reduceBEq, Int.reduceBNe, mCall, cells_enc, cel3, (enc_eq r2.1).symm, (enc_eq r4.1).symm, k1, k2, k3, k4, hs4]
                      · simp -implicitDefEqProofs (disch := decide +kernel) only [go_sem, ↓reduceIte, Nat.reduceSub, Nat.reduceAdd, Nat.reduceMul, Nat.reduceBEq, Nat.reduceLT, Nat.reduceLeDiff, Nat.reduceEqDiff, reduceCtorEq, Int.reduceToNat, Int.reduceLE, Int.reduceLT, Int.reduceBEq, Int.reduceBNe, mCall, k1, k2, k3, k4]
                    · simp -implicitDefEqProofs (disch := decide +kernel) only [go_sem, ↓reduceIte, Nat.reduceSub, Nat.reduceAdd, Nat.reduceMul, Nat.reduceBEq, Nat.reduceLT, Nat.reduceLeDiff, Nat.reduceEqDiff, reduceCtorEq, Int.reduceToNat, Int.reduceLE, Int.reduceLT, Int.reduceBEq, Int.reduceBNe, mCall, k1, k2, k3]
                  · simp -implicitDefEqProofs (disch := decide +kernel) only [go_sem, ↓reduceIte, Nat.reduceSub, Nat.reduceAdd, Nat.reduceMul, Nat.reduceBEq, Nat.reduceLT, Nat.reduceLeDiff, Nat.reduceEqDiff, reduceCtorEq, Int.reduceToNat, Int.reduceLE, Int.reduceLT, Int.reduceBEq, Int.reduceBNe, mCall, k1, k2]
                · simp -implicitDefEqProofs (disch := decide +kernel) only [go_sem, ↓reduceIte, Nat.reduceSub, Nat.reduceAdd, Nat.reduceMul, Nat.reduceBEq, Nat.reduceLT, Nat.reduceLeDiff, Nat.reduceEqDiff, reduceCtorEq, Int.reduceToNat, Int.reduceLE, Int.reduceLT, Int.reduceBEq, Int.reduceBNe, mCall, k1]
end Go.Proofs.Ytobocgjdlchemaa

