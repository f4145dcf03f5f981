/- Law of layer 4: MetaFills. -/
import Derived.Test.YtmemmdfjlhamfaaF43
import Derived.Test.YtmemmdfjlhamfaaF45
set_option linter.unusedSimpArgs false
set_option linter.unusedVariables false
set_option maxRecDepth 100000
namespace Go.Proofs.Ytmemmdfjlhamfaa
open Go.Proofs
theorem eachR_small {F : Nat → Tm × Int} {k : Nat} (h : ∀ i, (F i).1.size ≤ 4000) : (eachR F k).1.length ≤ k ∧ ∀ x ∈ (eachR F k).1, x.size ≤ 4000 := by
  unfold eachR
  split
  · refine ⟨by simp [outs], fun x hx => ?_⟩
    simp only [outs, List.mem_map] at hx
    obtain ⟨i, _, rfl⟩ := hx
    exact h i
  · simp
theorem ctx_small (l th : List Tm) (n : Int) : (CtxR l th n).1.length ≤ l.length ∧ ∀ x ∈ (CtxR l th n).1, x.size ≤ 4000 := eachR_small fun i => fillR_size _ _ _
theorem all_small (l th : List Tm) (ns : List Int) : (AllR l th ns).1.length ≤ l.length ∧ ∀ x ∈ (AllR l th ns).1, x.size ≤ 4000 := by
  unfold AllR
  split
  · exact eachR_small fun i => fillR_size _ _ _
  · simp
set_option maxHeartbeats 4000000 in
theorem metaFills_holds (t : Tm) (w : Wf t) (hs : t.size ≤ 1048576) (th : List Tm) (wh : ∀ t ∈ th, Wf t) (hsh : (th.map Tm.size).sum + 1 ≤ 1048576) (n : Int) (jn : in64 n) (l : List Tm) (wl : ∀ t ∈ l, Wf t) (hsl : (l.map Tm.size).sum + 1 ≤ 1048576) (ns : List Int) (wn : ∀ n ∈ ns, in64 n) (hsn : ns.length + 1 ≤ 1048576) :
    ∃ h, (lim C).call 4 [dT t, dL th, dI n, dL l, .d (.slc (encIs ns))] [] = some (.ret (dB true), h) := by
  have hr : room = 1099511627776 := rfl
  have hs' : t.size < room := by omega
  obtain ⟨hlr, hzr⟩ := lists_room hsl
  obtain ⟨hlh, hzh⟩ := lists_room hsh
  refine ⟨[], ?_⟩
  rw [ev_fn 4 Try.f4 _ _ _ rfl Try.func4 rfl Try.ntmps4 rfl]
  simp -implicitDefEqProofs (disch := decide +kernel) only [go_sem, ↓reduceIte, Nat.reduceSub, Nat.reduceAdd, Nat.reduceMul, Nat.reduceBEq, Nat.reduceLT, Nat.reduceLeDiff, Nat.reduceEqDiff, reduceCtorEq, Int.reduceToNat, Int.reduceLE, Int.reduceLT, Int.reduceBEq, Int.reduceBNe, mCall, awake4_spec, light_spec t _ _ hs', lights_spec l _ _ hlr hzr, lights_spec th _ _ hlh hzh, cells_enc, cel3, (enc_eq t).symm, encIs_len]
  cases h1 : lightB t 5000 80
  · simp -implicitDefEqProofs (disch := decide +kernel) only [go_sem, ↓reduceIte, Nat.reduceSub, Nat.reduceAdd, Nat.reduceMul, Nat.reduceBEq, Nat.reduceLT, Nat.reduceLeDiff, Nat.reduceEqDiff, reduceCtorEq, Int.reduceToNat, Int.reduceLE, Int.reduceLT, Int.reduceBEq, Int.reduceBNe, mCall, awake4_spec, light_spec t _ _ hs', lights_spec l _ _ hlr hzr, lights_spec th _ _ hlh hzh, cells_enc, cel3, (enc_eq t).symm, encIs_len, h1]
  · skip
    simp -implicitDefEqProofs (disch := decide +kernel) only [go_sem, ↓reduceIte, Nat.reduceSub, Nat.reduceAdd, Nat.reduceMul, Nat.reduceBEq, Nat.reduceLT, Nat.reduceLeDiff, Nat.reduceEqDiff, reduceCtorEq, Int.reduceToNat, Int.reduceLE, Int.reduceLT, Int.reduceBEq, Int.reduceBNe, mCall, awake4_spec, light_spec t _ _ hs', lights_spec l _ _ hlr hzr, lights_spec th _ _ hlh hzh, cells_enc, cel3, (enc_eq t).symm, encIs_len, h1]
    cases h2 : lightsB th 5000 80
    · simp -implicitDefEqProofs (disch := decide +kernel) only [go_sem, ↓reduceIte, Nat.reduceSub, Nat.reduceAdd, Nat.reduceMul, Nat.reduceBEq, Nat.reduceLT, Nat.reduceLeDiff, Nat.reduceEqDiff, reduceCtorEq, Int.reduceToNat, Int.reduceLE, Int.reduceLT, Int.reduceBEq, Int.reduceBNe, mCall, awake4_spec, light_spec t _ _ hs', lights_spec l _ _ hlr hzr, lights_spec th _ _ hlh hzh, cells_enc, cel3, (enc_eq t).symm, encIs_len, h2]
    · skip
      simp -implicitDefEqProofs (disch := decide +kernel) only [go_sem, ↓reduceIte, Nat.reduceSub, Nat.reduceAdd, Nat.reduceMul, Nat.reduceBEq, Nat.reduceLT, Nat.reduceLeDiff, Nat.reduceEqDiff, reduceCtorEq, Int.reduceToNat, Int.reduceLE, Int.reduceLT, Int.reduceBEq, Int.reduceBNe, mCall, awake4_spec, light_spec t _ _ hs', lights_spec l _ _ hlr hzr, lights_spec th _ _ hlh hzh, cells_enc, cel3, (enc_eq t).symm, encIs_len, h2]
      cases h3 : lightsB l 5000 80
      · simp -implicitDefEqProofs (disch := decide +kernel) only [go_sem, ↓reduceIte, Nat.reduceSub, Nat.reduceAdd, Nat.reduceMul, Nat.reduceBEq, Nat.reduceLT, Nat.reduceLeDiff, Nat.reduceEqDiff, reduceCtorEq, Int.reduceToNat, Int.reduceLE, Int.reduceLT, Int.reduceBEq, Int.reduceBNe, mCall, awake4_spec, light_spec t _ _ hs', lights_spec l _ _ hlr hzr, lights_spec th _ _ hlh hzh, cells_enc, cel3, (enc_eq t).symm, encIs_len, h3]
      · skip
        simp -implicitDefEqProofs (disch := decide +kernel) only [go_sem, ↓reduceIte, Nat.reduceSub, Nat.reduceAdd, Nat.reduceMul, Nat.reduceBEq, Nat.reduceLT, Nat.reduceLeDiff, Nat.reduceEqDiff, reduceCtorEq, Int.reduceToNat, Int.reduceLE, Int.reduceLT, Int.reduceBEq, Int.reduceBNe, mCall, awake4_spec, light_spec t _ _ hs', lights_spec l _ _ hlr hzr, lights_spec th _ _ hlh hzh, cells_enc, cel3, (enc_eq t).symm, encIs_len, h3]
        cases h4 : decide ((ns.length : Int) > 60)
        · have hok := lights_ok h2 hzh
          have hv := vle_low (light_low h1)
          obtain ⟨hll, hli⟩ := lights_parts h3
          have hlo : LOk 1099511627776 l := ⟨by omega, fun x hx => ⟨by have := sum_mem (List.mem_map_of_mem (f := Tm.size) hx); omega, vle_low (light_low (hli x hx))⟩⟩
          obtain ⟨x1, a1⟩ := mFill_spec hok t hs hv n
          obtain ⟨x2, a2⟩ := rFill_spec hok t hs hv n
          obtain ⟨x3, a3⟩ := mCtx_spec hok l hlo n jn
          obtain ⟨x4, a4⟩ := rCtx_spec hok l hlo n jn
          obtain ⟨x5, a5⟩ := mAll_spec hok l hlo ns
          obtain ⟨x6, a6⟩ := rAll_spec hok l hlo ns
          have z1 := fillR_size t th n
          obtain ⟨z2, z3⟩ := ctx_small l th n
          obtain ⟨z4, z5⟩ := all_small l th ns
          generalize FillR t th n = r1 at a1 a2 z1
          generalize CtxR l th n = r2 at a3 a4 z2 z3
          generalize AllR l th ns = r3 at a5 a6 z4 z5
          have s1 := rsame_spec r1.1 (by omega) r1.1
          rw [sameB_refl] at s1
          have s2 := rlist_spec r2.1 r2.1 (by omega) (fun x hx => by have := z3 x hx; omega)
          rw [sameL_refl] at s2
          have s3 := rlist_spec r3.1 r3.1 (by omega) (fun x hx => by have := z5 x hx; omega)
          rw [sameL_refl] at s3
          have e1 : (r1.2 == r1.2) = true := by simp
          have e2 : (r2.2 == r2.2) = true := by simp
          have e3 : (r3.2 == r3.2) = true := by simp
          simp -implicitDefEqProofs (disch := decide +kernel) only [go_sem, ↓reduceIte, Nat.reduceSub, Nat.reduceAdd, Nat.reduceMul, Nat.reduceBEq, Nat.reduceLT, Nat.reduceLeDiff, Nat.reduceEqDiff, reduceCtorEq, Int.reduceToNat, Int.reduceLE, Int.reduceLT, Int.reduceBEq, Int.reduceBNe, mCall, awake4_spec, h1, h2, h3, h4, cells_enc, cel3, (enc_eq t).symm, (enc_eq r1.1).symm, a1, a2, a3, a4, a5, a6, s1, s2, s3, e1, e2, e3]
        · simp -implicitDefEqProofs (disch := decide +kernel) only [go_sem, ↓reduceIte, Nat.reduceSub, Nat.reduceAdd, Nat.reduceMul, Nat.reduceBEq, Nat.reduceLT, Nat.reduceLeDiff, Nat.reduceEqDiff, reduceCtorEq, Int.reduceToNat, Int.reduceLE, Int.reduceLT, Int.reduceBEq, Int.reduceBNe, mCall, awake4_spec, h1, h2, h3, h4]
end Go.Proofs.Ytmemmdfjlhamfaa
