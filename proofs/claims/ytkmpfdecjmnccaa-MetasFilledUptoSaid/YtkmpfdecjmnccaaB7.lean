/- The laws of layer 12: MetasFilled. -/
import Derived.Test.YtkmpfdecjmnccaaB6
set_option linter.unusedSimpArgs false
set_option linter.unusedVariables false
set_option maxRecDepth 100000
namespace Go.Proofs.Ytkmpfdecjmnccaa
open Go.Proofs
theorem WIn.none2 {K : Int} {sg : List Dc} {ms : List Md} {cx : List Tm} (h : WIn K ⟨sg, ms, cx⟩) : WIn K ⟨sg, [], []⟩ :=
  ⟨⟨by show 0 < room; decide, by simp, h.sz.sl, h.sz.sz, by show 0 < room; decide, by simp⟩, h.hk, h.top, by simp, h.sig, by simp⟩
set_option maxHeartbeats 8000000 in
theorem metasFilled_holds (sg : List Dc) (wsg : ∀ t ∈ sg, Wf t.t) (hsg : dsum sg + 1 ≤ 1048576) (dl : List Md) (wdl : ∀ t ∈ dl, WfM t) (hdl : msum dl + 1 ≤ 1048576) (ov : List Md) (wov : ∀ t ∈ ov, WfM t) (hov : msum ov + 1 ≤ 1048576)
    (th : List Tm) (wth : ∀ t ∈ th, Wf t) (hth : (th.map Tm.size).sum + 1 ≤ 1048576) (cx : List Tm) (wcx : ∀ t ∈ cx, Wf t) (hcx : (cx.map Tm.size).sum + 1 ≤ 1048576) (m : Tm) (wm : Wf m) (hm : m.size ≤ 1048576) (a : Tm) (wa : Wf a) (ha : a.size ≤ 1048576) :
    ∃ h, (lim C).call 3 [dDs sg, dMs dl, dMs ov, dL th, dL cx, dT m, dT a] [] = some (.ret (dB true), h) := by
  have hr : room = 1099511627776 := rfl
  have htv : topV = 1125899906842624 := rfl
  have hw := wsz_of hsg hdl hcx
  have hwo : WSz ⟨[], ov, []⟩ := wsz_of (by simp [dsum]) hov (by simp)
  obtain ⟨htr, hzr⟩ := lists_room hth
  have zm := size_room hm
  have za := size_room ha
  have hA := awake12_spec
  have hF := fewW_spec ⟨sg, dl, cx⟩ hw
  have hF : (lim C).call 8 [dDs sg, dMs dl, dL cx] [] = retB (fewW ⟨sg, dl, cx⟩) := hF
  have hF2 := few12_spec ov hov
  have hp := lights_spec th 200 40 htr hzr
  have hq := light_spec m 200 40 zm
  have hq2 := light_spec a 200 40 za
  have hem := (enc_eq m).symm
  have hea := (enc_eq a).symm
  refine ⟨[], ?_⟩
  rw [ev_fn 3 Try.f3 _ _ _ rfl Try.func3 rfl Try.ntmps3 rfl]
  simp -implicitDefEqProofs (disch := decide +kernel) only [go_sem, ↓reduceIte, Nat.reduceSub, Nat.reduceAdd, Nat.reduceMul, Nat.reduceBEq, Nat.reduceLT, Nat.reduceLeDiff, Nat.reduceEqDiff, reduceCtorEq, Int.reduceToNat, Int.reduceLE, Int.reduceLT, Int.reduceBEq, Int.reduceBNe, mCall, hA, hF, hF2, hp, hq, hq2, cells_enc, cel3, hem, hea]
  cases k1 : fewW ⟨sg, dl, cx⟩
  · simp -implicitDefEqProofs (disch := decide +kernel) only [go_sem, ↓reduceIte, Nat.reduceSub, Nat.reduceAdd, Nat.reduceMul, Nat.reduceBEq, Nat.reduceLT, Nat.reduceLeDiff, Nat.reduceEqDiff, reduceCtorEq, Int.reduceToNat, Int.reduceLE, Int.reduceLT, Int.reduceBEq, Int.reduceBNe, mCall, hA, hF, hF2, hp, hq, hq2, cells_enc, cel3, hem, hea, k1]
  · skip
    simp -implicitDefEqProofs (disch := decide +kernel) only [go_sem, ↓reduceIte, Nat.reduceSub, Nat.reduceAdd, Nat.reduceMul, Nat.reduceBEq, Nat.reduceLT, Nat.reduceLeDiff, Nat.reduceEqDiff, reduceCtorEq, Int.reduceToNat, Int.reduceLE, Int.reduceLT, Int.reduceBEq, Int.reduceBNe, mCall, hA, hF, hF2, hp, hq, hq2, cells_enc, cel3, hem, hea, k1]
    cases k2 : fewW ⟨[], ov, []⟩
    · simp -implicitDefEqProofs (disch := decide +kernel) only [go_sem, ↓reduceIte, Nat.reduceSub, Nat.reduceAdd, Nat.reduceMul, Nat.reduceBEq, Nat.reduceLT, Nat.reduceLeDiff, Nat.reduceEqDiff, reduceCtorEq, Int.reduceToNat, Int.reduceLE, Int.reduceLT, Int.reduceBEq, Int.reduceBNe, mCall, hA, hF, hF2, hp, hq, hq2, cells_enc, cel3, hem, hea, k2]
    · skip
      simp -implicitDefEqProofs (disch := decide +kernel) only [go_sem, ↓reduceIte, Nat.reduceSub, Nat.reduceAdd, Nat.reduceMul, Nat.reduceBEq, Nat.reduceLT, Nat.reduceLeDiff, Nat.reduceEqDiff, reduceCtorEq, Int.reduceToNat, Int.reduceLE, Int.reduceLT, Int.reduceBEq, Int.reduceBNe, mCall, hA, hF, hF2, hp, hq, hq2, cells_enc, cel3, hem, hea, k2]
      cases k3 : lightsB th 200 40
      · simp -implicitDefEqProofs (disch := decide +kernel) only [go_sem, ↓reduceIte, Nat.reduceSub, Nat.reduceAdd, Nat.reduceMul, Nat.reduceBEq, Nat.reduceLT, Nat.reduceLeDiff, Nat.reduceEqDiff, reduceCtorEq, Int.reduceToNat, Int.reduceLE, Int.reduceLT, Int.reduceBEq, Int.reduceBNe, mCall, hA, hF, hF2, hp, hq, hq2, cells_enc, cel3, hem, hea, k3]
      · skip
        simp -implicitDefEqProofs (disch := decide +kernel) only [go_sem, ↓reduceIte, Nat.reduceSub, Nat.reduceAdd, Nat.reduceMul, Nat.reduceBEq, Nat.reduceLT, Nat.reduceLeDiff, Nat.reduceEqDiff, reduceCtorEq, Int.reduceToNat, Int.reduceLE, Int.reduceLT, Int.reduceBEq, Int.reduceBNe, mCall, hA, hF, hF2, hp, hq, hq2, cells_enc, cel3, hem, hea, k3]
        cases k4 : lightB m 200 40
        · simp -implicitDefEqProofs (disch := decide +kernel) only [go_sem, ↓reduceIte, Nat.reduceSub, Nat.reduceAdd, Nat.reduceMul, Nat.reduceBEq, Nat.reduceLT, Nat.reduceLeDiff, Nat.reduceEqDiff, reduceCtorEq, Int.reduceToNat, Int.reduceLE, Int.reduceLT, Int.reduceBEq, Int.reduceBNe, mCall, hA, hF, hF2, hp, hq, hq2, cells_enc, cel3, hem, hea, k4]
        · skip
          simp -implicitDefEqProofs (disch := decide +kernel) only [go_sem, ↓reduceIte, Nat.reduceSub, Nat.reduceAdd, Nat.reduceMul, Nat.reduceBEq, Nat.reduceLT, Nat.reduceLeDiff, Nat.reduceEqDiff, reduceCtorEq, Int.reduceToNat, Int.reduceLE, Int.reduceLT, Int.reduceBEq, Int.reduceBNe, mCall, hA, hF, hF2, hp, hq, hq2, cells_enc, cel3, hem, hea, k4]
          cases k5 : lightB a 200 40
          · simp -implicitDefEqProofs (disch := decide +kernel) only [go_sem, ↓reduceIte, Nat.reduceSub, Nat.reduceAdd, Nat.reduceMul, Nat.reduceBEq, Nat.reduceLT, Nat.reduceLeDiff, Nat.reduceEqDiff, reduceCtorEq, Int.reduceToNat, Int.reduceLE, Int.reduceLT, Int.reduceBEq, Int.reduceBNe, mCall, hA, hF, hF2, hp, hq, hq2, cells_enc, cel3, hem, hea, k5]
          · skip
            simp -implicitDefEqProofs (disch := decide +kernel) only [go_sem, ↓reduceIte, Nat.reduceSub, Nat.reduceAdd, Nat.reduceMul, Nat.reduceBEq, Nat.reduceLT, Nat.reduceLeDiff, Nat.reduceEqDiff, reduceCtorEq, Int.reduceToNat, Int.reduceLE, Int.reduceLT, Int.reduceBEq, Int.reduceBNe, mCall, hA, hF, hF2, hp, hq, hq2, cells_enc, cel3, hem, hea, k5]
            cases k6 : decide ((cx.length : Int) > 40)
            rotate_left
            · simp -implicitDefEqProofs (disch := decide +kernel) only [go_sem, ↓reduceIte, Nat.reduceSub, Nat.reduceAdd, Nat.reduceMul, Nat.reduceBEq, Nat.reduceLT, Nat.reduceLeDiff, Nat.reduceEqDiff, reduceCtorEq, Int.reduceToNat, Int.reduceLE, Int.reduceLT, Int.reduceBEq, Int.reduceBNe, mCall, hA, hF, hF2, hp, hq, hq2, cells_enc, cel3, hem, hea, k6]
            simp -implicitDefEqProofs (disch := decide +kernel) only [go_sem, ↓reduceIte, Nat.reduceSub, Nat.reduceAdd, Nat.reduceMul, Nat.reduceBEq, Nat.reduceLT, Nat.reduceLeDiff, Nat.reduceEqDiff, reduceCtorEq, Int.reduceToNat, Int.reduceLE, Int.reduceLT, Int.reduceBEq, Int.reduceBNe, mCall, hA, hF, hF2, hp, hq, hq2, cells_enc, cel3, hem, hea, k6]
            have hin := few_in hw k1
            have hino := few_in hwo k2
            have hin0 := hin.none2
            have hd := few_dl hw k1
            have ho := lights_th k3 hzr
            have hk6 : ¬ (cx.length : Int) > 40 := by simpa using k6
            have hcl : cx.length ≤ 40 := by omega
            have va := light_vle k5
            have vm := light_vle k4
            have hdlin : WIn lowK ⟨sg, dl, []⟩ := hin.cons (c := []) (by simp) (by show 0 < room; decide)
            have hovin : WIn lowK ⟨sg, ov, []⟩ := ⟨⟨by show 0 < room; decide, by simp, hin.sz.sl, hin.sz.sz, hino.sz.ml, hino.sz.mz⟩, hin.hk, hin.top, by simp, hin.sig, hino.metas⟩
            obtain ⟨h1, c1⟩ := wSig_spec sg hin0.sz
            obtain ⟨h2, c2⟩ := mDecls_spec hdlin
            obtain ⟨h3, c3⟩ := mDecls_spec hovin
            obtain ⟨h4, c4⟩ := wCtx_spec hdlin cx hw.cz (by show 0 + _ < room; omega)
            have c4 : (lim C).call 14 [dDs sg, dMs dl, .d (.slc []), dL cx] [] = some (.ret (dI (CtxWR (Wo.wd ⟨sg, dl, []⟩) [] cx)), h4) := c4
            obtain ⟨h5, c5⟩ := cType_spec hin a za
            have c5 : (lim C).call 15 [dDs sg, dMs dl, dL cx, dT a] [] = some (.ret (dI (TypR (Wo.wd ⟨sg, dl, []⟩) cx a)), h5) := c5
            obtain ⟨h6, c6⟩ := cTerm_spec hin m a zm za va
            have c6 : (lim C).call 16 [dDs sg, dMs dl, dL cx, dT m, dT a] [] = some (.ret (dI (TermR (Wo.wd ⟨sg, dl, []⟩) cx m a)), h6) := c6
            obtain ⟨h7, c7⟩ := mSub_spec hovin (by rw [htv]; decide) ho hd (by show 0 + 1048576 < room; decide)
            have c7 : (lim C).call 17 [dDs sg, dMs ov, .d (.slc []), dMs dl, dL th] [] = some (.ret (dI (SubR ⟨sg, ov, []⟩ dl th)), h7) := c7
            have hlo : LOk lowK cx := ⟨by omega, fun x hx => ⟨by
              have := (light_size ((fewW_parts k1).2.2.2 x hx)).1
              omega, hin.ctx x hx⟩⟩
            obtain ⟨h8, c8⟩ := mCtx_spec ho cx hlo 0 (by unfold in64; omega)
            obtain ⟨h9, c9⟩ := mFill_spec ho m hm vm cx.length
            obtain ⟨h10, c10⟩ := mFill_spec ho a ha va cx.length
            have hci := ctxR_in (n := 0) ho hlo
            have hin11 := hovin.add (by rw [htv]; decide) hci.2 (by show 0 + _ < room; omega)
            obtain ⟨h11, c11⟩ := cTerm_spec hin11 (FillR m th cx.length).1 (FillR a th cx.length).1 (by have := fillR_size m th cx.length; omega) (by have := fillR_size a th cx.length; omega) (fillR_vle' ho va _)
            have c11 : (lim C).call 16 [dDs sg, dMs ov, dL (CtxR cx th 0).1, dT (FillR m th cx.length).1, dT (FillR a th cx.length).1] [] = some (.ret (dI (TermR (Wo.wd ⟨sg, ov, []⟩) (CtxR cx th 0).1 (FillR m th cx.length).1 (FillR a th cx.length).1)), h11) := c11
            have key := fun e1 e2 e3 e4 e5 e6 e7 => filled_plain (sgn := sg) (ov := ov) (dl := dl) (th := th) (cx := cx) (m := m) (a := a) e1 e2 e3 e7 e4 e5 e6
            have hex := (enc_eq (FillR m th cx.length).1).symm
            have heb := (enc_eq (FillR a th cx.length).1).symm
            generalize TermR (Wo.wd ⟨sg, ov, []⟩) (CtxR cx th 0).1 (FillR m th cx.length).1 (FillR a th cx.length).1 = v11 at c11 key
            generalize FillR m th cx.length = x at *
            generalize FillR a th cx.length = b at *
            generalize CtxR cx th 0 = l at *
            generalize SigR sg = v1 at *
            generalize DeclsR sg dl = v2 at *
            generalize DeclsR sg ov = v3 at *
            generalize CtxWR (Wo.wd ⟨sg, dl, []⟩) [] cx = v4 at *
            generalize TypR (Wo.wd ⟨sg, dl, []⟩) cx a = v5 at *
            generalize TermR (Wo.wd ⟨sg, dl, []⟩) cx m a = v6 at *
            generalize SubR ⟨sg, ov, []⟩ dl th = v7 at *
            have h00 : ((0 : Int) != 0) = false := rfl
            have h40 : ((4 : Int) != 0) = true := rfl
            have h44 : ((4 : Int) == 4) = true := rfl
            have h04 : ((0 : Int) == 4) = false := rfl
            have hz0 : ((0 : Int) == 0) = true := rfl
            have hz4 : ((4 : Int) == 0) = false := rfl
            simp -implicitDefEqProofs (disch := decide +kernel) only [go_sem, ↓reduceIte, Nat.reduceSub, Nat.reduceAdd, Nat.reduceMul, Nat.reduceBEq, Nat.reduceLT, Nat.reduceLeDiff, Nat.reduceEqDiff, reduceCtorEq, Int.reduceToNat, Int.reduceLE, Int.reduceLT, Int.reduceBEq, Int.reduceBNe, mCall, c1, c2, c3, c4, c5, c6, c7, cells_enc, cel3, hem, hea]
            cases j1 : (v1.2 != 0)
            rotate_left
            · simp -implicitDefEqProofs (disch := decide +kernel) only [go_sem, ↓reduceIte, Nat.reduceSub, Nat.reduceAdd, Nat.reduceMul, Nat.reduceBEq, Nat.reduceLT, Nat.reduceLeDiff, Nat.reduceEqDiff, reduceCtorEq, Int.reduceToNat, Int.reduceLE, Int.reduceLT, Int.reduceBEq, Int.reduceBNe, mCall, c1, c2, c3, c4, c5, c6, c7, cells_enc, cel3, hem, hea, j1]
            simp -implicitDefEqProofs (disch := decide +kernel) only [go_sem, ↓reduceIte, Nat.reduceSub, Nat.reduceAdd, Nat.reduceMul, Nat.reduceBEq, Nat.reduceLT, Nat.reduceLeDiff, Nat.reduceEqDiff, reduceCtorEq, Int.reduceToNat, Int.reduceLE, Int.reduceLT, Int.reduceBEq, Int.reduceBNe, mCall, c1, c2, c3, c4, c5, c6, c7, cells_enc, cel3, hem, hea, j1]
            cases j2 : (v2.2 != 0)
            rotate_left
            · simp -implicitDefEqProofs (disch := decide +kernel) only [go_sem, ↓reduceIte, Nat.reduceSub, Nat.reduceAdd, Nat.reduceMul, Nat.reduceBEq, Nat.reduceLT, Nat.reduceLeDiff, Nat.reduceEqDiff, reduceCtorEq, Int.reduceToNat, Int.reduceLE, Int.reduceLT, Int.reduceBEq, Int.reduceBNe, mCall, c1, c2, c3, c4, c5, c6, c7, cells_enc, cel3, hem, hea, j2]
            simp -implicitDefEqProofs (disch := decide +kernel) only [go_sem, ↓reduceIte, Nat.reduceSub, Nat.reduceAdd, Nat.reduceMul, Nat.reduceBEq, Nat.reduceLT, Nat.reduceLeDiff, Nat.reduceEqDiff, reduceCtorEq, Int.reduceToNat, Int.reduceLE, Int.reduceLT, Int.reduceBEq, Int.reduceBNe, mCall, c1, c2, c3, c4, c5, c6, c7, cells_enc, cel3, hem, hea, j2]
            cases j3 : (v3.2 != 0)
            rotate_left
            · simp -implicitDefEqProofs (disch := decide +kernel) only [go_sem, ↓reduceIte, Nat.reduceSub, Nat.reduceAdd, Nat.reduceMul, Nat.reduceBEq, Nat.reduceLT, Nat.reduceLeDiff, Nat.reduceEqDiff, reduceCtorEq, Int.reduceToNat, Int.reduceLE, Int.reduceLT, Int.reduceBEq, Int.reduceBNe, mCall, c1, c2, c3, c4, c5, c6, c7, cells_enc, cel3, hem, hea, j3]
            simp -implicitDefEqProofs (disch := decide +kernel) only [go_sem, ↓reduceIte, Nat.reduceSub, Nat.reduceAdd, Nat.reduceMul, Nat.reduceBEq, Nat.reduceLT, Nat.reduceLeDiff, Nat.reduceEqDiff, reduceCtorEq, Int.reduceToNat, Int.reduceLE, Int.reduceLT, Int.reduceBEq, Int.reduceBNe, mCall, c1, c2, c3, c4, c5, c6, c7, cells_enc, cel3, hem, hea, j3]
            cases j4 : (v4 != 0)
            rotate_left
            · simp -implicitDefEqProofs (disch := decide +kernel) only [go_sem, ↓reduceIte, Nat.reduceSub, Nat.reduceAdd, Nat.reduceMul, Nat.reduceBEq, Nat.reduceLT, Nat.reduceLeDiff, Nat.reduceEqDiff, reduceCtorEq, Int.reduceToNat, Int.reduceLE, Int.reduceLT, Int.reduceBEq, Int.reduceBNe, mCall, c1, c2, c3, c4, c5, c6, c7, cells_enc, cel3, hem, hea, j4]
            simp -implicitDefEqProofs (disch := decide +kernel) only [go_sem, ↓reduceIte, Nat.reduceSub, Nat.reduceAdd, Nat.reduceMul, Nat.reduceBEq, Nat.reduceLT, Nat.reduceLeDiff, Nat.reduceEqDiff, reduceCtorEq, Int.reduceToNat, Int.reduceLE, Int.reduceLT, Int.reduceBEq, Int.reduceBNe, mCall, c1, c2, c3, c4, c5, c6, c7, cells_enc, cel3, hem, hea, j4]
            cases j5 : (v5 != 0)
            rotate_left
            · simp -implicitDefEqProofs (disch := decide +kernel) only [go_sem, ↓reduceIte, Nat.reduceSub, Nat.reduceAdd, Nat.reduceMul, Nat.reduceBEq, Nat.reduceLT, Nat.reduceLeDiff, Nat.reduceEqDiff, reduceCtorEq, Int.reduceToNat, Int.reduceLE, Int.reduceLT, Int.reduceBEq, Int.reduceBNe, mCall, c1, c2, c3, c4, c5, c6, c7, cells_enc, cel3, hem, hea, j5]
            simp -implicitDefEqProofs (disch := decide +kernel) only [go_sem, ↓reduceIte, Nat.reduceSub, Nat.reduceAdd, Nat.reduceMul, Nat.reduceBEq, Nat.reduceLT, Nat.reduceLeDiff, Nat.reduceEqDiff, reduceCtorEq, Int.reduceToNat, Int.reduceLE, Int.reduceLT, Int.reduceBEq, Int.reduceBNe, mCall, c1, c2, c3, c4, c5, c6, c7, cells_enc, cel3, hem, hea, j5]
            cases j6 : (v6 != 0)
            rotate_left
            · simp -implicitDefEqProofs (disch := decide +kernel) only [go_sem, ↓reduceIte, Nat.reduceSub, Nat.reduceAdd, Nat.reduceMul, Nat.reduceBEq, Nat.reduceLT, Nat.reduceLeDiff, Nat.reduceEqDiff, reduceCtorEq, Int.reduceToNat, Int.reduceLE, Int.reduceLT, Int.reduceBEq, Int.reduceBNe, mCall, c1, c2, c3, c4, c5, c6, c7, cells_enc, cel3, hem, hea, j6]
            simp -implicitDefEqProofs (disch := decide +kernel) only [go_sem, ↓reduceIte, Nat.reduceSub, Nat.reduceAdd, Nat.reduceMul, Nat.reduceBEq, Nat.reduceLT, Nat.reduceLeDiff, Nat.reduceEqDiff, reduceCtorEq, Int.reduceToNat, Int.reduceLE, Int.reduceLT, Int.reduceBEq, Int.reduceBNe, mCall, c1, c2, c3, c4, c5, c6, c7, cells_enc, cel3, hem, hea, j6]
            cases j7 : (v7 != 0)
            rotate_left
            · simp -implicitDefEqProofs (disch := decide +kernel) only [go_sem, ↓reduceIte, Nat.reduceSub, Nat.reduceAdd, Nat.reduceMul, Nat.reduceBEq, Nat.reduceLT, Nat.reduceLeDiff, Nat.reduceEqDiff, reduceCtorEq, Int.reduceToNat, Int.reduceLE, Int.reduceLT, Int.reduceBEq, Int.reduceBNe, mCall, c1, c2, c3, c4, c5, c6, c7, cells_enc, cel3, hem, hea, j7]
            simp -implicitDefEqProofs (disch := decide +kernel) only [go_sem, ↓reduceIte, Nat.reduceSub, Nat.reduceAdd, Nat.reduceMul, Nat.reduceBEq, Nat.reduceLT, Nat.reduceLeDiff, Nat.reduceEqDiff, reduceCtorEq, Int.reduceToNat, Int.reduceLE, Int.reduceLT, Int.reduceBEq, Int.reduceBNe, mCall, c1, c2, c3, c4, c5, c6, c7, cells_enc, cel3, hem, hea, j7]
            obtain ⟨q1, q2, q3, q4⟩ := key (by simpa using j1) (by simpa using j2) (by simpa using j3) (by simpa using j4) (by simpa using j5) (by simpa using j6) (by simpa using j7)
            rcases q1 with e1 | e1 <;> rcases q2 with e2 | e2 <;> rcases q3 with e3 | e3
            · rw [e1] at c8
              rw [e2] at c9
              rw [e3] at c10
              rcases q4 e1 e2 e3 with e | e
              · rw [e] at c11
                simp -implicitDefEqProofs (disch := decide +kernel) only [go_sem, ↓reduceIte, Nat.reduceSub, Nat.reduceAdd, Nat.reduceMul, Nat.reduceBEq, Nat.reduceLT, Nat.reduceLeDiff, Nat.reduceEqDiff, reduceCtorEq, Int.reduceToNat, Int.reduceLE, Int.reduceLT, Int.reduceBEq, Int.reduceBNe, mCall, c8, c9, c10, c11, h00, hz0, cells_enc, cel3, hem, hea, hex, heb]
              · rw [e] at c11
                simp -implicitDefEqProofs (disch := decide +kernel) only [go_sem, ↓reduceIte, Nat.reduceSub, Nat.reduceAdd, Nat.reduceMul, Nat.reduceBEq, Nat.reduceLT, Nat.reduceLeDiff, Nat.reduceEqDiff, reduceCtorEq, Int.reduceToNat, Int.reduceLE, Int.reduceLT, Int.reduceBEq, Int.reduceBNe, mCall, c8, c9, c10, c11, h00, h44, hz4, cells_enc, cel3, hem, hea, hex, heb]
            all_goals
              rw [e1] at c8
              rw [e2] at c9
              rw [e3] at c10
              simp -implicitDefEqProofs (disch := decide +kernel) only [go_sem, ↓reduceIte, Nat.reduceSub, Nat.reduceAdd, Nat.reduceMul, Nat.reduceBEq, Nat.reduceLT, Nat.reduceLeDiff, Nat.reduceEqDiff, reduceCtorEq, Int.reduceToNat, Int.reduceLE, Int.reduceLT, Int.reduceBEq, Int.reduceBNe, mCall, c8, c9, c10, h00, h40, h44, h04, cells_enc, cel3, hem, hea, hex, heb]
end Go.Proofs.Ytkmpfdecjmnccaa
