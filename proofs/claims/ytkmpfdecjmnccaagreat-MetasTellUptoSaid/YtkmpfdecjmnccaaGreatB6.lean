/- The laws of layer 12: MetasCount, MetasTell. -/
import Derived.Test.YtkmpfdecjmnccaaGreatB5
set_option linter.unusedSimpArgs false
set_option linter.unusedVariables false
set_option maxRecDepth 100000
namespace Go.Proofs.YtkmpfdecjmnccaaGreat
open Go.Proofs
theorem decls_one (sg : List Dc) (d : Md) : DeclsR sg [d] = (0, declMW (Wo.wd ⟨sg, [], []⟩) d) := by
  unfold DeclsR firstR
  rw [if_neg (by simp)]
  show fstR _ (0 + 1) 0 = _
  unfold fstR
  have h : declsW sg [d] 0 = declMW (Wo.wd ⟨sg, [], []⟩) d := rfl
  rw [h]
  by_cases e : declMW (Wo.wd ⟨sg, [], []⟩) d = 0
  · rw [if_neg (by simpa using e), e]; rfl
  · rw [if_pos e]; rfl
def piM (a : Tm) : Md := ⟨[], .mk 1 0 [a, a], false⟩
def paM (a : Tm) : Md := ⟨[a], a, true⟩
theorem piM_err (w : Wd) (a : Tm) : declMW w (piM a) = 1 := by
  unfold declMW
  have h1 : CtxWR w [] (piM a).ctx = 0 := rfl
  rw [h1, if_neg (by decide)]
  have h2 : ((piM a).t.kind != 2 || (piM a).param && decide (((piM a).ctx.length : Int) > 0)) = true := rfl
  rw [if_pos h2]
theorem paM_err (w : Wd) (a : Tm) : declMW w (paM a) ≠ 0 := by
  unfold declMW
  by_cases h : CtxWR w [] (paM a).ctx = 0
  · rw [if_neg (by simpa using h), if_pos (by simp [paM])]; decide
  · rw [if_pos h]; exact h
theorem sub_err {w : Wo} {dl : List Md} {th : List Tm} (h : dl.length ≤ 40) (h2 : th.length ≠ dl.length) : SubR w dl th = 3 := by
  unfold SubR
  rw [if_neg (by omega), if_pos h2]
theorem WIn.none' {K : Int} {sg : List Dc} {ms : List Md} {cx : List Tm} (h : WIn K ⟨sg, ms, cx⟩) : WIn K ⟨sg, [], []⟩ :=
  ⟨⟨by show 0 < room; decide, by simp, h.sz.sl, h.sz.sz, by show 0 < room; decide, by simp⟩, h.hk, h.top, by simp, h.sig, by simp⟩
theorem WIn.meta1 {K : Int} {sg : List Dc} (h : WIn K ⟨sg, [], []⟩) {d : Md} (hz : d.t.size < room ∧ vleB K d.t = true) (hl : d.ctx.length < room) (hc : ∀ x ∈ d.ctx, x.size < room ∧ vleB K x = true) : WIn K ⟨sg, [d], []⟩ := by
  refine ⟨⟨h.sz.cl, h.sz.cz, h.sz.sl, h.sz.sz, by show 1 < room; decide, fun x hx => ?_⟩, h.hk, h.top, h.ctx, h.sig, fun x hx => ?_⟩
  · obtain rfl : x = d := by simpa using hx
    exact ⟨hz.1, hl, fun y hy => (hc y hy).1⟩
  · obtain rfl : x = d := by simpa using hx
    exact ⟨hz.2, fun y hy => (hc y hy).2⟩
set_option maxHeartbeats 8000000 in
theorem metasCount_holds (sg : List Dc) (wsg : ∀ t ∈ sg, Wf t.t) (hsg : dsum sg + 1 ≤ 1048576) (dl : List Md) (wdl : ∀ t ∈ dl, WfM t) (hdl : msum dl + 1 ≤ 1048576) (th : List Tm) (wth : ∀ t ∈ th, Wf t) (hth : (th.map Tm.size).sum + 1 ≤ 1048576) (a : Tm) (wa : Wf a) (ha : a.size ≤ 1048576) :
    ∃ h, (lim C).call 3 [dDs sg, dMs dl, dL th, dT a] [] = some (.ret (dB true), h) := by
  have hr : room = 1099511627776 := rfl
  have htv : topV = 1125899906842624 := rfl
  have hw := wsz_of (cx := []) hsg hdl (by simp)
  obtain ⟨htr, hzr⟩ := lists_room hth
  have za := size_room ha
  have hA := awake12_spec
  have hF := fewW_spec ⟨sg, dl, []⟩ hw
  have hF : (lim C).call 6 [dDs sg, dMs dl, .d (.slc [])] [] = retB (fewW ⟨sg, dl, []⟩) := hF
  have hp := lights_spec th 500 80 htr hzr
  have hq := light_spec a 300 60 za
  have hea := (enc_eq a).symm
  refine ⟨[], ?_⟩
  rw [ev_fn 3 Tryz.f3 _ _ _ rfl Tryz.func3 rfl Tryz.ntmps3 rfl]
  simp -implicitDefEqProofs (disch := decide +kernel) only [go_sem, ↓reduceIte, Nat.reduceSub, Nat.reduceAdd, Nat.reduceMul, Nat.reduceBEq, Nat.reduceLT, Nat.reduceLeDiff, Nat.reduceEqDiff, reduceCtorEq, Int.reduceToNat, Int.reduceLE, Int.reduceLT, Int.reduceBEq, Int.reduceBNe, mCall, hA, hF, hp, hq, cells_enc, cel3, hea]
  cases k1 : fewW ⟨sg, dl, []⟩
  · simp -implicitDefEqProofs (disch := decide +kernel) only [go_sem, ↓reduceIte, Nat.reduceSub, Nat.reduceAdd, Nat.reduceMul, Nat.reduceBEq, Nat.reduceLT, Nat.reduceLeDiff, Nat.reduceEqDiff, reduceCtorEq, Int.reduceToNat, Int.reduceLE, Int.reduceLT, Int.reduceBEq, Int.reduceBNe, mCall, hA, hF, hp, hq, cells_enc, cel3, hea, k1]
  · skip
    simp -implicitDefEqProofs (disch := decide +kernel) only [go_sem, ↓reduceIte, Nat.reduceSub, Nat.reduceAdd, Nat.reduceMul, Nat.reduceBEq, Nat.reduceLT, Nat.reduceLeDiff, Nat.reduceEqDiff, reduceCtorEq, Int.reduceToNat, Int.reduceLE, Int.reduceLT, Int.reduceBEq, Int.reduceBNe, mCall, hA, hF, hp, hq, cells_enc, cel3, hea, k1]
    cases k2 : lightsB th 500 80
    · simp -implicitDefEqProofs (disch := decide +kernel) only [go_sem, ↓reduceIte, Nat.reduceSub, Nat.reduceAdd, Nat.reduceMul, Nat.reduceBEq, Nat.reduceLT, Nat.reduceLeDiff, Nat.reduceEqDiff, reduceCtorEq, Int.reduceToNat, Int.reduceLE, Int.reduceLT, Int.reduceBEq, Int.reduceBNe, mCall, hA, hF, hp, hq, cells_enc, cel3, hea, k2]
    · skip
      simp -implicitDefEqProofs (disch := decide +kernel) only [go_sem, ↓reduceIte, Nat.reduceSub, Nat.reduceAdd, Nat.reduceMul, Nat.reduceBEq, Nat.reduceLT, Nat.reduceLeDiff, Nat.reduceEqDiff, reduceCtorEq, Int.reduceToNat, Int.reduceLE, Int.reduceLT, Int.reduceBEq, Int.reduceBNe, mCall, hA, hF, hp, hq, cells_enc, cel3, hea, k2]
      cases k3 : lightB a 300 60
      · simp -implicitDefEqProofs (disch := decide +kernel) only [go_sem, ↓reduceIte, Nat.reduceSub, Nat.reduceAdd, Nat.reduceMul, Nat.reduceBEq, Nat.reduceLT, Nat.reduceLeDiff, Nat.reduceEqDiff, reduceCtorEq, Int.reduceToNat, Int.reduceLE, Int.reduceLT, Int.reduceBEq, Int.reduceBNe, mCall, hA, hF, hp, hq, cells_enc, cel3, hea, k3]
      · skip
        simp -implicitDefEqProofs (disch := decide +kernel) only [go_sem, ↓reduceIte, Nat.reduceSub, Nat.reduceAdd, Nat.reduceMul, Nat.reduceBEq, Nat.reduceLT, Nat.reduceLeDiff, Nat.reduceEqDiff, reduceCtorEq, Int.reduceToNat, Int.reduceLE, Int.reduceLT, Int.reduceBEq, Int.reduceBNe, mCall, hA, hF, hp, hq, cells_enc, cel3, hea, k3]
        have hin := few_in hw k1
        have hd := few_dl hw k1
        have ho := lights_th k2 hzr
        have hin0 : WIn lowK ⟨sg, [], []⟩ := hin.none'
        have va := light_vle k3
        have sa := (light_size k3).1
        have hdl30 : dl.length ≤ 30 := (fewW_parts k1).2.1.1
        obtain ⟨h1, c1⟩ := mDecls_spec (hin0.meta1 (d := piM a) ⟨by simp [piM, mk_size]; omega, vle_mk (fun e => by cases e) (by simpa using va)⟩ (by show 0 < room; decide) (by simp [piM]))
        obtain ⟨h2, c2⟩ := mDecls_spec (hin0.meta1 (d := paM a) ⟨za, va⟩ (by show 1 < room; decide) (by simp [paM]; exact ⟨za, va⟩))
        rw [decls_one, piM_err] at c1
        rw [decls_one] at c2
        have hne := paM_err (Wo.wd ⟨sg, [], []⟩) a
        have c1 : (lim C).call 9 [dDs sg, .d (.slc [encM (piM a)])] [] = some (.ret (.tup [dI 0, dI 1]), h1) := c1
        have c2 : (lim C).call 9 [dDs sg, .d (.slc [encM (paM a)])] [] = some (.ret (.tup [dI 0, dI (declMW (Wo.wd ⟨sg, [], []⟩) (paM a))]), h2) := c2
        obtain ⟨h3, c3⟩ := mSub_spec hin0 (by rw [htv]; decide) ho hd (by show 0 + 1048576 < room; decide)
        have c4 := r12Sub_spec hin0 (by rw [htv]; decide) ho hd (by show 0 + 1048576 < room; decide)
        have c3 : (lim C).call 10 [dDs sg, .d (.slc []), .d (.slc []), dMs dl, dL th] [] = some (.ret (dI (SubR ⟨sg, [], []⟩ dl th)), h3) := c3
        have c4 : (lim C).call 11 [dDs sg, .d (.slc []), .d (.slc []), dMs dl, dL th] [] = some (.ret (dI (SubR ⟨sg, [], []⟩ dl th)), []) := c4
        have em1 : Dv.agg [.slc [], .int .i64 1, .int .i64 0, .slc [enc a, enc a], .bool false] = encM (piM a) := rfl
        have em2 : Dv.agg [.slc [enc a], .int .i64 a.kind, .int .i64 a.head, .slc (encs a.args), .bool true] = encM (paM a) := rfl
        have h10 : ((1 : Int) != 0) = true := rfl
        have h33 : ((3 : Int) == 3) = true := rfl
        have h2' : (declMW (Wo.wd ⟨sg, [], []⟩) (paM a) != 0) = true := by simpa using hne
        generalize declMW (Wo.wd ⟨sg, [], []⟩) (paM a) = v at *
        cases k4 : ((th.length : Int) == (dl.length : Int))
        · have hlen : th.length ≠ dl.length := by
            have h : ¬(th.length : Int) = (dl.length : Int) := by simpa using k4
            omega
          rw [sub_err (by omega) hlen] at c3 c4
          simp -implicitDefEqProofs (disch := decide +kernel) only [go_sem, ↓reduceIte, Nat.reduceSub, Nat.reduceAdd, Nat.reduceMul, Nat.reduceBEq, Nat.reduceLT, Nat.reduceLeDiff, Nat.reduceEqDiff, reduceCtorEq, Int.reduceToNat, Int.reduceLE, Int.reduceLT, Int.reduceBEq, Int.reduceBNe, mCall, c1, c2, c3, c4, em1, em2, h10, h2', h33, k4, cells_enc, cel3, hea, beq_self_eq_true]
        · generalize SubR ⟨sg, [], []⟩ dl th = u at *
          simp -implicitDefEqProofs (disch := decide +kernel) only [go_sem, ↓reduceIte, Nat.reduceSub, Nat.reduceAdd, Nat.reduceMul, Nat.reduceBEq, Nat.reduceLT, Nat.reduceLeDiff, Nat.reduceEqDiff, reduceCtorEq, Int.reduceToNat, Int.reduceLE, Int.reduceLT, Int.reduceBEq, Int.reduceBNe, mCall, c1, c2, c3, c4, em1, em2, h10, h2', k4, cells_enc, cel3, hea, beq_self_eq_true]
def mt_S (sg : List Dc) (ov : List Md) (ex : List Tm) (dl : List Md) (th : List Tm) (r : Int × Int) (A : List Int) (P : List Bool) (i : Nat) : St :=
  mk 129 [(0, dDs sg), (1, dMs ov), (2, dL ex), (3, dMs dl), (4, dL th), (15, dI r.1), (16, dI r.2), (17, dI r.1), (18, dI r.2), (19, .d (.slc (encIs A))), (20, .d (.slc (encIs A))), (21, .d (.slc (encBs P))), (22, .d (.slc (encBs P))), (23, dI i)] [] [] []
set_option maxHeartbeats 8000000 in
theorem metasTell_holds (sg : List Dc) (wsg : ∀ t ∈ sg, Wf t.t) (hsg : dsum sg + 1 ≤ 1048576) (ov : List Md) (wov : ∀ t ∈ ov, WfM t) (hov : msum ov + 1 ≤ 1048576) (ex : List Tm) (wex : ∀ t ∈ ex, Wf t) (hex : (ex.map Tm.size).sum + 1 ≤ 1048576)
    (dl : List Md) (wdl : ∀ t ∈ dl, WfM t) (hdl : msum dl + 1 ≤ 1048576) (th : List Tm) (wth : ∀ t ∈ th, Wf t) (hth : (th.map Tm.size).sum + 1 ≤ 1048576) :
    ∃ h, (lim C).call 4 [dDs sg, dMs ov, dL ex, dMs dl, dL th] [] = some (.ret (dB true), h) := by
  have hr : room = 1099511627776 := rfl
  have htv : topV = 1125899906842624 := rfl
  have hw := wsz_of hsg hov hex
  have hwd : WSz ⟨[], dl, []⟩ := wsz_of (by simp [dsum]) hdl (by simp)
  obtain ⟨htr, hzr⟩ := lists_room hth
  have hA := awake12_spec
  have hF := fewW_spec ⟨sg, ov, ex⟩ hw
  have hF : (lim C).call 6 [dDs sg, dMs ov, dL ex] [] = retB (fewW ⟨sg, ov, ex⟩) := hF
  have hF2 := few12_spec dl hdl
  have hp := lights_spec th 500 80 htr hzr
  refine ⟨[], ?_⟩
  rw [ev_fn 4 Tryz.f4 _ _ _ rfl Tryz.func4 rfl Tryz.ntmps4 rfl]
  simp -implicitDefEqProofs (disch := decide +kernel) only [go_sem, ↓reduceIte, Nat.reduceSub, Nat.reduceAdd, Nat.reduceMul, Nat.reduceBEq, Nat.reduceLT, Nat.reduceLeDiff, Nat.reduceEqDiff, reduceCtorEq, Int.reduceToNat, Int.reduceLE, Int.reduceLT, Int.reduceBEq, Int.reduceBNe, mCall, hA, hF, hF2, hp]
  cases k1 : fewW ⟨sg, ov, ex⟩
  · simp -implicitDefEqProofs (disch := decide +kernel) only [go_sem, ↓reduceIte, Nat.reduceSub, Nat.reduceAdd, Nat.reduceMul, Nat.reduceBEq, Nat.reduceLT, Nat.reduceLeDiff, Nat.reduceEqDiff, reduceCtorEq, Int.reduceToNat, Int.reduceLE, Int.reduceLT, Int.reduceBEq, Int.reduceBNe, mCall, hA, hF, hF2, hp, k1]
  · skip
    simp -implicitDefEqProofs (disch := decide +kernel) only [go_sem, ↓reduceIte, Nat.reduceSub, Nat.reduceAdd, Nat.reduceMul, Nat.reduceBEq, Nat.reduceLT, Nat.reduceLeDiff, Nat.reduceEqDiff, reduceCtorEq, Int.reduceToNat, Int.reduceLE, Int.reduceLT, Int.reduceBEq, Int.reduceBNe, mCall, hA, hF, hF2, hp, k1]
    cases k2 : fewW ⟨[], dl, []⟩
    · simp -implicitDefEqProofs (disch := decide +kernel) only [go_sem, ↓reduceIte, Nat.reduceSub, Nat.reduceAdd, Nat.reduceMul, Nat.reduceBEq, Nat.reduceLT, Nat.reduceLeDiff, Nat.reduceEqDiff, reduceCtorEq, Int.reduceToNat, Int.reduceLE, Int.reduceLT, Int.reduceBEq, Int.reduceBNe, mCall, hA, hF, hF2, hp, k2]
    · skip
      simp -implicitDefEqProofs (disch := decide +kernel) only [go_sem, ↓reduceIte, Nat.reduceSub, Nat.reduceAdd, Nat.reduceMul, Nat.reduceBEq, Nat.reduceLT, Nat.reduceLeDiff, Nat.reduceEqDiff, reduceCtorEq, Int.reduceToNat, Int.reduceLE, Int.reduceLT, Int.reduceBEq, Int.reduceBNe, mCall, hA, hF, hF2, hp, k2]
      cases k3 : lightsB th 500 80
      · simp -implicitDefEqProofs (disch := decide +kernel) only [go_sem, ↓reduceIte, Nat.reduceSub, Nat.reduceAdd, Nat.reduceMul, Nat.reduceBEq, Nat.reduceLT, Nat.reduceLeDiff, Nat.reduceEqDiff, reduceCtorEq, Int.reduceToNat, Int.reduceLE, Int.reduceLT, Int.reduceBEq, Int.reduceBNe, mCall, hA, hF, hF2, hp, k3]
      · skip
        simp -implicitDefEqProofs (disch := decide +kernel) only [go_sem, ↓reduceIte, Nat.reduceSub, Nat.reduceAdd, Nat.reduceMul, Nat.reduceBEq, Nat.reduceLT, Nat.reduceLeDiff, Nat.reduceEqDiff, reduceCtorEq, Int.reduceToNat, Int.reduceLE, Int.reduceLT, Int.reduceBEq, Int.reduceBNe, mCall, hA, hF, hF2, hp, k3]
        have hin := few_in hw k1
        have hind := few_in hwd k2
        have hd := few_dl hwd k2
        have ho := lights_th k3 hzr
        have hel : ex.length ≤ 60 := (fewW_parts k1).2.2.1
        have hin0 : WIn lowK ⟨sg, dl, []⟩ := ⟨⟨by show 0 < room; decide, by simp, hin.sz.sl, hin.sz.sz, hind.sz.ml, hind.sz.mz⟩, hin.hk, hin.top, by simp, hin.sig, hind.metas⟩
        obtain ⟨h1, c1⟩ := mDecls_spec hin0
        have c2 := r12Decls_spec hin0
        have hml : dl.length < room := hind.sz.ml
        have c3 := mSizes_spec dl hml
        have c4 := r12Sizes_spec dl hml
        have c5 := mParams_spec dl hml
        have c6 := r12Params_spec dl hml
        obtain ⟨h7, c7⟩ := mSub_spec hin (by rw [htv]; decide) ho hd (by show ex.length + 1048576 < room; omega)
        have c8 := r12Sub_spec hin (by rw [htv]; decide) ho hd (by show ex.length + 1048576 < room; omega)
        have c7 : (lim C).call 10 [dDs sg, dMs ov, dL ex, dMs dl, dL th] [] = some (.ret (dI (SubR ⟨sg, ov, ex⟩ dl th)), h7) := c7
        have c8 : (lim C).call 11 [dDs sg, dMs ov, dL ex, dMs dl, dL th] [] = some (.ret (dI (SubR ⟨sg, ov, ex⟩ dl th)), []) := c8
        generalize SubR ⟨sg, ov, ex⟩ dl th = u at *
        generalize DeclsR sg dl = r at *
        have A1 : (SizesL dl).length = dl.length := by simp [SizesL]
        have P1 : (ParamsL dl).length = dl.length := by simp [ParamsL]
        generalize SizesL dl = A at *
        generalize ParamsL dl = P at *
        have hs : ∀ i, i < dl.length → (lim C).code 4 (cf (cf (cs (cf (cs (cs (cs (cs (cs (cs (cs (cs (cs (cs (cs (cs (cs (bodyOf Tryz.f4)))))))))))))))))) (mt_S sg ov ex dl th r A P i) = some (.nor, mt_S sg ov ex dl th r A P (i + 1)) := fun i hi => by
          have g1 := encIs_get (ns := A) (i := i) (by omega)
          have g2 := encBs_get (ns := P) (i := i) (by omega)
          simp -implicitDefEqProofs (disch := decide +kernel) only [cf, cs, bodyOf, Tryz.f4, Option.getD_some, go_sem, ↓reduceIte, Nat.reduceSub, Nat.reduceAdd, Nat.reduceMul, Nat.reduceBEq, Nat.reduceLT, Nat.reduceLeDiff, Nat.reduceEqDiff, reduceCtorEq, Int.reduceToNat, Int.reduceLE, Int.reduceLT, Int.reduceBEq, Int.reduceBNe, mCall, mt_S, lt_true hi, g1, g2, encIs_len, encBs_len, A1, P1, encIs_all, encBs_all, wid_int, cel_int, wid_bool, cel_bool, bne_self_eq_false, wrap_succ (n := i) (by omega)]
        have hloop : (lim C).code 4 (.loop (cf (cf (cs (cf (cs (cs (cs (cs (cs (cs (cs (cs (cs (cs (cs (cs (cs (bodyOf Tryz.f4))))))))))))))))))) (mt_S sg ov ex dl th r A P 0) = some (.exit 0, mk 129 [(0, dDs sg), (1, dMs ov), (2, dL ex), (3, dMs dl), (4, dL th), (15, dI r.1), (16, dI r.2), (17, dI r.1), (18, dI r.2), (19, .d (.slc (encIs A))), (20, .d (.slc (encIs A))), (21, .d (.slc (encBs P))), (22, .d (.slc (encBs P))), (23, dI dl.length), (83, dB false)] [] [] []) := by
          refine loop_run (mt_S sg ov ex dl th r A P) dl.length hs ?_ (by simp)
          simp -implicitDefEqProofs (disch := decide +kernel) only [cf, cs, bodyOf, Tryz.f4, Option.getD_some, go_sem, ↓reduceIte, Nat.reduceSub, Nat.reduceAdd, Nat.reduceMul, Nat.reduceBEq, Nat.reduceLT, Nat.reduceLeDiff, Nat.reduceEqDiff, reduceCtorEq, Int.reduceToNat, Int.reduceLE, Int.reduceLT, Int.reduceBEq, Int.reduceBNe, mCall, mt_S, encIs_len, A1, lt_false (Nat.le_refl dl.length)]
        simp -implicitDefEqProofs (disch := decide +kernel) only [go_sem, ↓reduceIte, Nat.reduceSub, Nat.reduceAdd, Nat.reduceMul, Nat.reduceBEq, Nat.reduceLT, Nat.reduceLeDiff, Nat.reduceEqDiff, reduceCtorEq, Int.reduceToNat, Int.reduceLE, Int.reduceLT, Int.reduceBEq, Int.reduceBNe, mCall, c1, c2, c3, c4, c5, c6, encIs_len, encBs_len, A1, P1, bne_self_eq_false]
        rw [loop_at hloop ?hb ?hs]
        case hb => rfl
        case hs => rfl
        simp -implicitDefEqProofs (disch := decide +kernel) only [go_sem, ↓reduceIte, Nat.reduceSub, Nat.reduceAdd, Nat.reduceMul, Nat.reduceBEq, Nat.reduceLT, Nat.reduceLeDiff, Nat.reduceEqDiff, reduceCtorEq, Int.reduceToNat, Int.reduceLE, Int.reduceLT, Int.reduceBEq, Int.reduceBNe, mCall, c7, c8, beq_self_eq_true]
end Go.Proofs.YtkmpfdecjmnccaaGreat
