/- The reference of layer 10: terms, types, kinds, and all from outside. -/
import Derived.Test.YtbcoacljjhbonaaGreatB4
set_option linter.unusedSimpArgs false
set_option linter.unusedVariables false
set_option maxRecDepth 100000
namespace Go.Proofs.YtbcoacljjhbonaaGreat
open Go.Proofs
set_option maxHeartbeats 4000000 in
theorem rcomes_spec {w : Wo} {m : Tm} {K : Int} (hn : RNodeOk w m K) : (lim C).call 85 [.href 0 0, dL w.ctx, dT m] (rfH w) = some (.ret (.tup [dT (cmW w.wd w.ctx (argF w m) m).1, dI (cmW w.wd w.ctx (argF w m) m).2]), rfH w) := by
  have hr : room = 1099511627776 := rfl
  have hz := zT_enc
  have htv : topV = 1125899906842624 := rfl
  have hh := node_head (node_here (may_parts hn.may).1)
  have hcl := hn.wok.cl
  have h0 := hn.h0
  have htop := hn.top
  have hem := (enc_eq m).symm
  by_cases k4 : m.kind = 4
  · rw [cm_var k4]
    unfold varW
    rw [k4] at hem
    cases h1 : decide (m.head ≥ (w.ctx.length : Int))
    · rw [if_neg (by simpa using h1)]
      have hlt : m.head < w.ctx.length := by simp at h1; omega
      have hx := getD_mem' (l := w.ctx) (i := w.ctx.length - 1 - m.head.toNat) (by omega)
      have hg := getD_get (a := w.ctx) (i := w.ctx.length - 1 - m.head.toNat) (by omega)
      obtain ⟨x1, x2⟩ := hn.wok.ctx _ hx
      generalize w.ctx.getD (w.ctx.length - 1 - m.head.toNat) default = x at hx hg x1 x2 ⊢
      have hu1 := up_may x1 (b := m.head + 1) (by omega) 0
      have hu2 : vleB (K + 2000000) (upT x (m.head + 1) 0) = true := vle_mono (by omega) (vle_up x2 (b := m.head + 1) (by omega) 0)
      have hs := rspine_spec hn hu1 hu2
      rw [spD_go (by rfl)]
      have hw1 : IntKind.wrap .i64 ((w.ctx.length : Int) - 1) = (w.ctx.length : Int) - 1 := wrap_ok (by omega) (by omega)
      have hw2 : IntKind.wrap .i64 ((w.ctx.length : Int) - 1 - m.head) = (w.ctx.length : Int) - 1 - m.head := wrap_ok (by omega) (by omega)
      have hw3 : IntKind.wrap .i64 (m.head + 1) = m.head + 1 := wrap_ok (by omega) (by omega)
      have hi0 : 0 ≤ (w.ctx.length : Int) - 1 - m.head := by omega
      have hi1 : ((w.ctx.length : Int) - 1 - m.head).toNat = w.ctx.length - 1 - m.head.toNat := by omega
      have hren : renB x (m.head + 1) 0 = true := by
        simp only [renB, x1, Bool.true_and, Bool.and_eq_true, decide_eq_true_eq]
        omega
      have hup := rUp_spec x (may_room x1) (vle_mono (by omega) x2) (m.head + 1) 0
      rw [hren, if_pos rfl] at hup
      generalize spW (argF w m) m.arg m.args.length 0 (upT x (m.head + 1) 0) = r at hs ⊢
      simp only [rfH] at hs ⊢
      rw [ev_fn 85 Tryz.f85 _ _ _ rfl Tryz.func85 rfl Tryz.ntmps85 rfl]
      simp -implicitDefEqProofs (disch := decide +kernel) only [go_sem, ↓reduceIte, Nat.reduceSub, Nat.reduceAdd, Nat.reduceMul, Nat.reduceBEq, Nat.reduceLT, Nat.reduceLeDiff, Nat.reduceEqDiff, reduceCtorEq, Int.reduceToNat, Int.reduceLE, Int.reduceLT, Int.reduceBEq, Int.reduceBNe, mCall, cells_enc, cel3, k4, h1, hw1, hw2, hw3, hi0, hi1, hg, hup, hs, (enc_eq x).symm, hem, (enc_eq r.1).symm]
    · rw [if_pos (by simpa using h1)]
      have hs : spD (argF w m) m (zT, 2) = (zT, 2) := rfl
      rw [hs]
      simp only [rfH]
      rw [ev_fn 85 Tryz.f85 _ _ _ rfl Tryz.func85 rfl Tryz.ntmps85 rfl]
      simp -implicitDefEqProofs (disch := decide +kernel) only [go_sem, ↓reduceIte, Nat.reduceSub, Nat.reduceAdd, Nat.reduceMul, Nat.reduceBEq, Nat.reduceLT, Nat.reduceLeDiff, Nat.reduceEqDiff, reduceCtorEq, Int.reduceToNat, Int.reduceLE, Int.reduceLT, Int.reduceBEq, Int.reduceBNe, mCall, cells_enc, cel3, k4, h1, hz]
  by_cases k5 : m.kind = 5
  · rw [cm_const k5]
    rw [k5] at hem
    unfold declW
    have hlen : w.wd.sig.length = w.sig.length := by simp [Wo.wd]
    rw [hlen]
    cases h1 : decide (m.head ≥ (w.sig.length : Int))
    · have hlt : m.head.toNat < w.sig.length := by simp at h1; omega
      have hsd := hn.wok.sig _ (dat_mem hlt)
      have hsk := rkind_spec (Dcs.at w.sig m.head.toNat).t (may_room hsd.1)
      have hka : kindAt w.wd.sig m.head.toNat = ((lastOf (Dcs.at w.sig m.head.toNat).t).kind == 0) := by
        unfold kindAt isKind Wo.wd
        rw [getD_sig hlt]
      have hgd : w.wd.sig.getD m.head.toNat default = (Dcs.at w.sig m.head.toNat).t := getD_sig hlt
      have hge := dat_get hlt
      rw [if_neg (by simpa using h1), hka, hgd]
      cases h2 : ((lastOf (Dcs.at w.sig m.head.toNat).t).kind == 0)
      · rw [if_neg (by simp)]
        have hs := rspine_spec hn hsd.1 (vle_mono (by omega) hsd.2)
        rw [spD_go (by rfl)]
        generalize spW (argF w m) m.arg m.args.length 0 (Dcs.at w.sig m.head.toNat).t = r at hs ⊢
        simp only [rfH] at hs ⊢
        rw [ev_fn 85 Tryz.f85 _ _ _ rfl Tryz.func85 rfl Tryz.ntmps85 rfl]
        simp -implicitDefEqProofs (disch := decide +kernel) only [go_sem, ↓reduceIte, Nat.reduceSub, Nat.reduceAdd, Nat.reduceMul, Nat.reduceBEq, Nat.reduceLT, Nat.reduceLeDiff, Nat.reduceEqDiff, reduceCtorEq, Int.reduceToNat, Int.reduceLE, Int.reduceLT, Int.reduceBEq, Int.reduceBNe, mCall, cells_enc, cel3, k5, h1, hge, hh, hsk, h2, hs, cells_encD, (enc_eq (Dcs.at w.sig m.head.toNat).t).symm, hem, (enc_eq r.1).symm]
      · rw [if_pos (by simp)]
        have hs : spD (argF w m) m (zT, 2) = (zT, 2) := rfl
        rw [hs]
        simp only [rfH]
        rw [ev_fn 85 Tryz.f85 _ _ _ rfl Tryz.func85 rfl Tryz.ntmps85 rfl]
        simp -implicitDefEqProofs (disch := decide +kernel) only [go_sem, ↓reduceIte, Nat.reduceSub, Nat.reduceAdd, Nat.reduceMul, Nat.reduceBEq, Nat.reduceLT, Nat.reduceLeDiff, Nat.reduceEqDiff, reduceCtorEq, Int.reduceToNat, Int.reduceLE, Int.reduceLT, Int.reduceBEq, Int.reduceBNe, mCall, cells_enc, cel3, k5, h1, hge, hh, hsk, h2, hz, cells_encD, (enc_eq (Dcs.at w.sig m.head.toNat).t).symm, hem]
    · rw [if_pos (by simpa using h1)]
      have hs : spD (argF w m) m (zT, 2) = (zT, 2) := rfl
      rw [hs]
      simp only [rfH]
      rw [ev_fn 85 Tryz.f85 _ _ _ rfl Tryz.func85 rfl Tryz.ntmps85 rfl]
      simp -implicitDefEqProofs (disch := decide +kernel) only [go_sem, ↓reduceIte, Nat.reduceSub, Nat.reduceAdd, Nat.reduceMul, Nat.reduceBEq, Nat.reduceLT, Nat.reduceLeDiff, Nat.reduceEqDiff, reduceCtorEq, Int.reduceToNat, Int.reduceLE, Int.reduceLT, Int.reduceBEq, Int.reduceBNe, mCall, cells_enc, cel3, k5, h1, hz]
  by_cases k6 : m.kind = 6
  · rw [cm_meta k6]
    rw [k6] at hem
    have hs := rmeta_spec hn
    generalize metaW w.wd w.ctx.length (argF w m) m = r at hs ⊢
    simp only [rfH] at hs ⊢
    rw [ev_fn 85 Tryz.f85 _ _ _ rfl Tryz.func85 rfl Tryz.ntmps85 rfl]
    simp -implicitDefEqProofs (disch := decide +kernel) only [go_sem, ↓reduceIte, Nat.reduceSub, Nat.reduceAdd, Nat.reduceMul, Nat.reduceBEq, Nat.reduceLT, Nat.reduceLeDiff, Nat.reduceEqDiff, reduceCtorEq, Int.reduceToNat, Int.reduceLE, Int.reduceLT, Int.reduceBEq, Int.reduceBNe, mCall, cells_enc, cel3, k6, hs, hem, (enc_eq r.1).symm]
  · have hc : cmW w.wd w.ctx (argF w m) m = (zT, 3) := by unfold cmW; rw [if_neg k4, if_neg k5, if_neg k6]
    rw [hc]
    have k4' : (m.kind == 4) = false := by simpa using k4
    have k5' : (m.kind == 5) = false := by simpa using k5
    have k6' : (m.kind == 6) = false := by simpa using k6
    simp only [rfH]
    rw [ev_fn 85 Tryz.f85 _ _ _ rfl Tryz.func85 rfl Tryz.ntmps85 rfl]
    simp -implicitDefEqProofs (disch := decide +kernel) only [go_sem, ↓reduceIte, Nat.reduceSub, Nat.reduceAdd, Nat.reduceMul, Nat.reduceBEq, Nat.reduceLT, Nat.reduceLeDiff, Nat.reduceEqDiff, reduceCtorEq, Int.reduceToNat, Int.reduceLE, Int.reduceLT, Int.reduceBEq, Int.reduceBNe, mCall, cells_enc, cel3, k4', k5', k6', hz]
set_option maxHeartbeats 4000000 in
theorem rterm_spec : ∀ m : Tm, mayB m = true → ∀ (w : Wo) (a : Tm) (K : Int), vleB K m = true → WOk K w m.size → K + 4000000 * (m.size : Int) ≤ topV → mayB a = true → vleB K a = true →
    (lim C).call 74 [.href 0 0, dL w.ctx, dT m, dT a] (rfH w) = some (.ret (dI (termW w.wd m a w.ctx)), rfH w) := by
  refine Tm.ind fun m ih hm w a K hv hw hK ha hva => ?_
  have hr : room = 1099511627776 := rfl
  have hn := (may_parts hm).1
  have hcl := hw.cl
  have hsp := size_pos m
  have hem := (enc_eq m).symm
  have hea := (enc_eq a).symm
  have h0 := hw.h0
  have hT : RNodeOk w m K := ⟨fun i hi x hx hvx => by
      have hal := arg_len hi
      have hc := ih _ (arg_mem hi) (may_argm (arg_mem hi) hm) w x (K + 2000000 * ((i : Int) + 1)) (vle_mono (by omega) (vle_args hv i hi)) (hw.mono (by omega) (by omega)) (by omega) hx hvx
      rw [argW_lt hi]; exact hc, hm, hv, hw, hK⟩
  rw [termW_eq]
  unfold termB
  by_cases k3 : m.kind = 3
  · rw [if_pos k3]
    by_cases a1 : a.kind = 1
    · rw [if_pos a1]
      have hl := lam_len hn k3
      have hl2 := pi_len (may_parts ha).1 a1
      have hsz := arg_len (m := m) (i := 0) (by omega)
      have m0 := may_argm (arg_mem (t := a) (i := 0) (by omega)) ha
      have m1 := may_argm (arg_mem (t := a) (i := 1) (by omega)) ha
      have hww : WOk K (w.with (a.arg 0)) (m.arg 0).size := (hw.mono (Int.le_refl K) (by omega)).with m0 (vle_args hva 0 (by omega))
      have hc := ih _ (arg_mem (t := m) (i := 0) (by omega)) (may_argm (arg_mem (by omega)) hm) (w.with (a.arg 0)) (a.arg 1) K (vle_args hv 0 (by omega)) hww (by omega) m1 (vle_args hva 1 (by omega))
      rw [argW_lt (by omega)]
      have hc : (lim C).call 74 [.href 0 0, dL (w.ctx ++ [a.arg 0]), dT (m.arg 0), dT (a.arg 1)] (rfH w) = some (CR.ret (dI (termW w.wd (m.arg 0) (a.arg 1) (w.ctx ++ [a.arg 0]))), rfH w) := hc
      have hwith := rmore_spec w.ctx (a.arg 0) (by omega)
      have e0 : m.args[0]? = some (m.arg 0) := arg_get (by omega)
      have f0 : a.args[0]? = some (a.arg 0) := arg_get (by omega)
      have f1 : a.args[1]? = some (a.arg 1) := arg_get (by omega)
      generalize termW w.wd (m.arg 0) (a.arg 1) (w.ctx ++ [a.arg 0]) = r at hc ⊢
      simp only [rfH] at hc ⊢
      rw [ev_fn 74 Tryz.f74 _ _ _ rfl Tryz.func74 rfl Tryz.ntmps74 rfl]
      simp -implicitDefEqProofs (disch := decide +kernel) only [go_sem, ↓reduceIte, Nat.reduceSub, Nat.reduceAdd, Nat.reduceMul, Nat.reduceBEq, Nat.reduceLT, Nat.reduceLeDiff, Nat.reduceEqDiff, reduceCtorEq, Int.reduceToNat, Int.reduceLE, Int.reduceLT, Int.reduceBEq, Int.reduceBNe, mCall, cells_enc, cel3, k3, a1, e0, f0, f1, hwith, hc, (enc_eq (m.arg 0)).symm, (enc_eq (a.arg 0)).symm, (enc_eq (a.arg 1)).symm]
    · rw [if_neg a1]
      have a1' : (a.kind != 1) = true := by simpa using a1
      simp only [rfH]
      rw [ev_fn 74 Tryz.f74 _ _ _ rfl Tryz.func74 rfl Tryz.ntmps74 rfl]
      simp -implicitDefEqProofs (disch := decide +kernel) only [go_sem, ↓reduceIte, Nat.reduceSub, Nat.reduceAdd, Nat.reduceMul, Nat.reduceBEq, Nat.reduceLT, Nat.reduceLeDiff, Nat.reduceEqDiff, reduceCtorEq, Int.reduceToNat, Int.reduceLE, Int.reduceLT, Int.reduceBEq, Int.reduceBNe, mCall, cells_enc, cel3, k3, a1', hem, hea]
  · rw [if_neg k3]
    have k3' : (m.kind == 3) = false := by simpa using k3
    by_cases a2 : a.kind = 2
    · rw [if_neg (by simpa using a2)]
      have hc := rcomes_spec hT
      have hr2 : mayB (cmW w.wd w.ctx (argF w m) m).1 = true := cm_may hw (node_head (node_here hn))
      have a2' : (a.kind != 2) = false := by simpa using a2
      have hfs : cmW w.wd w.ctx (fun i x => argW w.wd m i x w.ctx) m = cmW w.wd w.ctx (argF w m) m := rfl
      rw [hfs]
      generalize cmW w.wd w.ctx (argF w m) m = r at hc hr2 ⊢
      have hsm := rsame_spec r.1 (may_room hr2) a
      have her := (enc_eq r.1).symm
      obtain ⟨t, e⟩ := r
      simp only [rfH] at hc ⊢
      simp only at hsm her
      by_cases he : e = 0
      · subst he
        have h00 : ((0 : Int) != 0) = false := rfl
        rw [if_neg (by simp)]
        cases hs : sameB t a
        · rw [hs] at hsm
          rw [ev_fn 74 Tryz.f74 _ _ _ rfl Tryz.func74 rfl Tryz.ntmps74 rfl]
          simp -implicitDefEqProofs (disch := decide +kernel) only [go_sem, ↓reduceIte, Nat.reduceSub, Nat.reduceAdd, Nat.reduceMul, Nat.reduceBEq, Nat.reduceLT, Nat.reduceLeDiff, Nat.reduceEqDiff, reduceCtorEq, Int.reduceToNat, Int.reduceLE, Int.reduceLT, Int.reduceBEq, Int.reduceBNe, mCall, cells_enc, cel3, k3', a2', hem, hea, hc, her, h00, hsm]
        · rw [hs] at hsm
          rw [ev_fn 74 Tryz.f74 _ _ _ rfl Tryz.func74 rfl Tryz.ntmps74 rfl]
          simp -implicitDefEqProofs (disch := decide +kernel) only [go_sem, ↓reduceIte, Nat.reduceSub, Nat.reduceAdd, Nat.reduceMul, Nat.reduceBEq, Nat.reduceLT, Nat.reduceLeDiff, Nat.reduceEqDiff, reduceCtorEq, Int.reduceToNat, Int.reduceLE, Int.reduceLT, Int.reduceBEq, Int.reduceBNe, mCall, cells_enc, cel3, k3', a2', hem, hea, hc, her, h00, hsm]
      · have he' : (e != 0) = true := by simpa using he
        rw [if_pos (by simpa using he)]
        rw [ev_fn 74 Tryz.f74 _ _ _ rfl Tryz.func74 rfl Tryz.ntmps74 rfl]
        simp -implicitDefEqProofs (disch := decide +kernel) only [go_sem, ↓reduceIte, Nat.reduceSub, Nat.reduceAdd, Nat.reduceMul, Nat.reduceBEq, Nat.reduceLT, Nat.reduceLeDiff, Nat.reduceEqDiff, reduceCtorEq, Int.reduceToNat, Int.reduceLE, Int.reduceLT, Int.reduceBEq, Int.reduceBNe, mCall, cells_enc, cel3, k3', a2', hem, hea, hc, her, he']
    · rw [if_pos (by simpa using a2)]
      have a2' : (a.kind != 2) = true := by simpa using a2
      simp only [rfH]
      rw [ev_fn 74 Tryz.f74 _ _ _ rfl Tryz.func74 rfl Tryz.ntmps74 rfl]
      simp -implicitDefEqProofs (disch := decide +kernel) only [go_sem, ↓reduceIte, Nat.reduceSub, Nat.reduceAdd, Nat.reduceMul, Nat.reduceBEq, Nat.reduceLT, Nat.reduceLeDiff, Nat.reduceEqDiff, reduceCtorEq, Int.reduceToNat, Int.reduceLE, Int.reduceLT, Int.reduceBEq, Int.reduceBNe, mCall, cells_enc, cel3, k3', a2', hem, hea]
theorem rnode_ok {w : Wo} {m : Tm} {K : Int} (hm : mayB m = true) (hv : vleB K m = true) (hw : WOk K w m.size) (hK : K + 4000000 * (m.size : Int) ≤ topV) : RNodeOk w m K := ⟨fun i hi x hx hvx => by
    have hal := arg_len hi
    have h0 := hw.h0
    have hc := rterm_spec _ (may_argm (arg_mem hi) hm) w x (K + 2000000 * ((i : Int) + 1)) (vle_mono (by omega) (vle_args hv i hi)) (hw.mono (by omega) (by omega)) (by omega) hx hvx
    rw [argW_lt hi]; exact hc, hm, hv, hw, hK⟩
set_option maxHeartbeats 4000000 in
theorem rtyp_spec : ∀ a : Tm, mayB a = true → ∀ (w : Wo) (K : Int), vleB K a = true → WOk K w a.size → K + 4000000 * (a.size : Int) ≤ topV →
    (lim C).call 45 [.href 0 0, dL w.ctx, dT a] (rfH w) = some (.ret (dI (typW w.wd a w.ctx)), rfH w) := by
  refine Tm.ind fun a ih ha w K hv hw hK => ?_
  have hr : room = 1099511627776 := rfl
  have hn := (may_parts ha).1
  have hcl := hw.cl
  have hsp := size_pos a
  have hea := (enc_eq a).symm
  have h0 := hw.h0
  by_cases k1 : a.kind = 1
  · have hl := pi_len hn k1
    rw [typW_pi _ k1 (by omega)]
    have hz0 := arg_len (m := a) (i := 0) (by omega)
    have hz1 := arg_len (m := a) (i := 1) (by omega)
    have m0 := may_argm (arg_mem (t := a) (i := 0) (by omega)) ha
    have m1 := may_argm (arg_mem (t := a) (i := 1) (by omega)) ha
    have hc := ih _ (arg_mem (t := a) (i := 0) (by omega)) m0 w K (vle_args hv 0 (by omega)) (hw.mono (Int.le_refl K) (by omega)) (by omega)
    have hww : WOk K (w.with (a.arg 0)) (a.arg 1).size := (hw.mono (Int.le_refl K) (by omega)).with m0 (vle_args hv 0 (by omega))
    have hc' := ih _ (arg_mem (t := a) (i := 1) (by omega)) m1 (w.with (a.arg 0)) K (vle_args hv 1 (by omega)) hww (by omega)
    have hc' : (lim C).call 45 [.href 0 0, dL (w.ctx ++ [a.arg 0]), dT (a.arg 1)] (rfH w) = some (CR.ret (dI (typW w.wd (a.arg 1) (w.ctx ++ [a.arg 0]))), rfH w) := hc'
    have hwith := rmore_spec w.ctx (a.arg 0) (by omega)
    have f0 : a.args[0]? = some (a.arg 0) := arg_get (by omega)
    have f1 : a.args[1]? = some (a.arg 1) := arg_get (by omega)
    simp only [rfH] at hc hc' ⊢
    by_cases he : typW w.wd (a.arg 0) w.ctx = 0
    · rw [if_neg (by simpa using he)]
      rw [he] at hc
      have h00 : ((0 : Int) != 0) = false := rfl
      rw [ev_fn 45 Tryz.f45 _ _ _ rfl Tryz.func45 rfl Tryz.ntmps45 rfl]
      simp -implicitDefEqProofs (disch := decide +kernel) only [go_sem, ↓reduceIte, Nat.reduceSub, Nat.reduceAdd, Nat.reduceMul, Nat.reduceBEq, Nat.reduceLT, Nat.reduceLeDiff, Nat.reduceEqDiff, reduceCtorEq, Int.reduceToNat, Int.reduceLE, Int.reduceLT, Int.reduceBEq, Int.reduceBNe, mCall, cells_enc, cel3, k1, f0, f1, hc, h00, hwith, hc', (enc_eq (a.arg 0)).symm, (enc_eq (a.arg 1)).symm]
    · rw [if_pos (by simpa using he)]
      have he' : (typW w.wd (a.arg 0) w.ctx != 0) = true := by simpa using he
      rw [ev_fn 45 Tryz.f45 _ _ _ rfl Tryz.func45 rfl Tryz.ntmps45 rfl]
      simp -implicitDefEqProofs (disch := decide +kernel) only [go_sem, ↓reduceIte, Nat.reduceSub, Nat.reduceAdd, Nat.reduceMul, Nat.reduceBEq, Nat.reduceLT, Nat.reduceLeDiff, Nat.reduceEqDiff, reduceCtorEq, Int.reduceToNat, Int.reduceLE, Int.reduceLT, Int.reduceBEq, Int.reduceBNe, mCall, cells_enc, cel3, k1, f0, f1, hc, he', (enc_eq (a.arg 0)).symm]
  · have k1' : (a.kind == 1) = false := by simpa using k1
    by_cases k2 : a.kind = 2
    · rw [typW_fam _ k2]
      have hh := node_head (node_here hn)
      have hT := rnode_ok ha hv hw hK
      have hlen : w.wd.sig.length = w.sig.length := by simp [Wo.wd]
      unfold famW
      cases h1 : decide (a.head ≥ (w.sig.length : Int))
      · have hlt : a.head.toNat < w.sig.length := by simp at h1; omega
        have hsd := hw.sig _ (dat_mem hlt)
        have hsk := rkind_spec (Dcs.at w.sig a.head.toNat).t (may_room hsd.1)
        have hka : kindAt w.wd.sig a.head.toNat = ((lastOf (Dcs.at w.sig a.head.toNat).t).kind == 0) := by
          unfold kindAt isKind Wo.wd
          rw [getD_sig hlt]
        have hgd : w.wd.sig.getD a.head.toNat default = (Dcs.at w.sig a.head.toNat).t := getD_sig hlt
        have hge := dat_get hlt
        cases h2 : ((lastOf (Dcs.at w.sig a.head.toNat).t).kind == 0)
        · have hq : declW w.wd a.head true = (zT, 2) := by
            unfold declW
            rw [hlen, if_neg (by simpa using h1), hka, h2]
            rfl
          have hs : spD (fun i x => argW w.wd a i x w.ctx) a (zT, 2) = (zT, 2) := rfl
          rw [hq, hs, if_pos (by simp)]
          simp only [rfH]
          rw [ev_fn 45 Tryz.f45 _ _ _ rfl Tryz.func45 rfl Tryz.ntmps45 rfl]
          simp -implicitDefEqProofs (disch := decide +kernel) only [go_sem, ↓reduceIte, Nat.reduceSub, Nat.reduceAdd, Nat.reduceMul, Nat.reduceBEq, Nat.reduceLT, Nat.reduceLeDiff, Nat.reduceEqDiff, reduceCtorEq, Int.reduceToNat, Int.reduceLE, Int.reduceLT, Int.reduceBEq, Int.reduceBNe, mCall, cells_enc, cel3, k2, h1, hge, hh, hsk, h2, cells_encD, (enc_eq (Dcs.at w.sig a.head.toNat).t).symm]
        · have hq : declW w.wd a.head true = ((Dcs.at w.sig a.head.toNat).t, 0) := by
            unfold declW
            rw [hlen, if_neg (by simpa using h1), hka, h2, hgd]
            rfl
          rw [hq]
          have hs := rspine_spec hT hsd.1 (vle_mono (by omega) hsd.2)
          have hs : _ = some (CR.ret (.tup [dT (spW (fun i x => argW w.wd a i x w.ctx) a.arg a.args.length 0 (Dcs.at w.sig a.head.toNat).t).1, dI (spW (fun i x => argW w.wd a i x w.ctx) a.arg a.args.length 0 (Dcs.at w.sig a.head.toNat).t).2]), rfH w) := hs
          rw [spD_go (by rfl)]
          generalize spW (fun i x => argW w.wd a i x w.ctx) a.arg a.args.length 0 (Dcs.at w.sig a.head.toNat).t = r at hs ⊢
          simp only [rfH] at hs ⊢
          by_cases he2 : r.2 = 0
          · have he2' : (r.2 != 0) = false := by simpa using he2
            rw [if_neg (by simpa using he2)]
            by_cases hk : r.1.kind = 0
            · have hk' : (r.1.kind != 0) = false := by simpa using hk
              rw [if_neg (by simpa using hk)]
              rw [ev_fn 45 Tryz.f45 _ _ _ rfl Tryz.func45 rfl Tryz.ntmps45 rfl]
              simp -implicitDefEqProofs (disch := decide +kernel) only [go_sem, ↓reduceIte, Nat.reduceSub, Nat.reduceAdd, Nat.reduceMul, Nat.reduceBEq, Nat.reduceLT, Nat.reduceLeDiff, Nat.reduceEqDiff, reduceCtorEq, Int.reduceToNat, Int.reduceLE, Int.reduceLT, Int.reduceBEq, Int.reduceBNe, mCall, cells_enc, cel3, k2, h1, hge, hh, hsk, h2, hs, he2', hk', cells_encD, (enc_eq (Dcs.at w.sig a.head.toNat).t).symm]
            · have hk' : (r.1.kind != 0) = true := by simpa using hk
              rw [if_pos (by simpa using hk)]
              rw [ev_fn 45 Tryz.f45 _ _ _ rfl Tryz.func45 rfl Tryz.ntmps45 rfl]
              simp -implicitDefEqProofs (disch := decide +kernel) only [go_sem, ↓reduceIte, Nat.reduceSub, Nat.reduceAdd, Nat.reduceMul, Nat.reduceBEq, Nat.reduceLT, Nat.reduceLeDiff, Nat.reduceEqDiff, reduceCtorEq, Int.reduceToNat, Int.reduceLE, Int.reduceLT, Int.reduceBEq, Int.reduceBNe, mCall, cells_enc, cel3, k2, h1, hge, hh, hsk, h2, hs, he2', hk', cells_encD, (enc_eq (Dcs.at w.sig a.head.toNat).t).symm]
          · have he2' : (r.2 != 0) = true := by simpa using he2
            rw [if_pos (by simpa using he2)]
            rw [ev_fn 45 Tryz.f45 _ _ _ rfl Tryz.func45 rfl Tryz.ntmps45 rfl]
            simp -implicitDefEqProofs (disch := decide +kernel) only [go_sem, ↓reduceIte, Nat.reduceSub, Nat.reduceAdd, Nat.reduceMul, Nat.reduceBEq, Nat.reduceLT, Nat.reduceLeDiff, Nat.reduceEqDiff, reduceCtorEq, Int.reduceToNat, Int.reduceLE, Int.reduceLT, Int.reduceBEq, Int.reduceBNe, mCall, cells_enc, cel3, k2, h1, hge, hh, hsk, h2, hs, he2', cells_encD, (enc_eq (Dcs.at w.sig a.head.toNat).t).symm]
      · have hq : declW w.wd a.head true = (zT, 2) := by
          unfold declW
          rw [hlen]
          exact if_pos (by simpa using h1)
        have hs : spD (fun i x => argW w.wd a i x w.ctx) a (zT, 2) = (zT, 2) := rfl
        rw [hq, hs, if_pos (by simp)]
        simp only [rfH]
        rw [ev_fn 45 Tryz.f45 _ _ _ rfl Tryz.func45 rfl Tryz.ntmps45 rfl]
        simp -implicitDefEqProofs (disch := decide +kernel) only [go_sem, ↓reduceIte, Nat.reduceSub, Nat.reduceAdd, Nat.reduceMul, Nat.reduceBEq, Nat.reduceLT, Nat.reduceLeDiff, Nat.reduceEqDiff, reduceCtorEq, Int.reduceToNat, Int.reduceLE, Int.reduceLT, Int.reduceBEq, Int.reduceBNe, mCall, cells_enc, cel3, k2, h1]
    · rw [typW_no _ k1 k2]
      have k2' : (a.kind != 2) = true := by simpa using k2
      simp only [rfH]
      rw [ev_fn 45 Tryz.f45 _ _ _ rfl Tryz.func45 rfl Tryz.ntmps45 rfl]
      simp -implicitDefEqProofs (disch := decide +kernel) only [go_sem, ↓reduceIte, Nat.reduceSub, Nat.reduceAdd, Nat.reduceMul, Nat.reduceBEq, Nat.reduceLT, Nat.reduceLeDiff, Nat.reduceEqDiff, reduceCtorEq, Int.reduceToNat, Int.reduceLE, Int.reduceLT, Int.reduceBEq, Int.reduceBNe, mCall, cells_enc, cel3, k1', k2']
set_option maxHeartbeats 4000000 in
theorem rkindT_spec : ∀ a : Tm, mayB a = true → ∀ (w : Wo) (K : Int), vleB K a = true → WOk K w a.size → K + 4000000 * (a.size : Int) ≤ topV →
    (lim C).call 44 [.href 0 0, dL w.ctx, dT a] (rfH w) = some (.ret (dI (kindW w.wd a w.ctx)), rfH w) := by
  refine Tm.ind fun a ih ha w K hv hw hK => ?_
  have hr : room = 1099511627776 := rfl
  have hn := (may_parts ha).1
  have hcl := hw.cl
  have hsp := size_pos a
  have hea := (enc_eq a).symm
  by_cases k0 : a.kind = 0
  · rw [kindW_sort _ k0]
    simp only [rfH]
    rw [ev_fn 44 Tryz.f44 _ _ _ rfl Tryz.func44 rfl Tryz.ntmps44 rfl]
    simp -implicitDefEqProofs (disch := decide +kernel) only [go_sem, ↓reduceIte, Nat.reduceSub, Nat.reduceAdd, Nat.reduceMul, Nat.reduceBEq, Nat.reduceLT, Nat.reduceLeDiff, Nat.reduceEqDiff, reduceCtorEq, Int.reduceToNat, Int.reduceLE, Int.reduceLT, Int.reduceBEq, Int.reduceBNe, mCall, cells_enc, cel3, k0]
  have k0' : (a.kind == 0) = false := by simpa using k0
  by_cases k1 : a.kind = 1
  · have hl := pi_len hn k1
    rw [kindW_pi _ k1 (by omega)]
    have hz0 := arg_len (m := a) (i := 0) (by omega)
    have hz1 := arg_len (m := a) (i := 1) (by omega)
    have m0 := may_argm (arg_mem (t := a) (i := 0) (by omega)) ha
    have m1 := may_argm (arg_mem (t := a) (i := 1) (by omega)) ha
    have hc := rtyp_spec _ m0 w K (vle_args hv 0 (by omega)) (hw.mono (Int.le_refl K) (by omega)) (by omega)
    have hww : WOk K (w.with (a.arg 0)) (a.arg 1).size := (hw.mono (Int.le_refl K) (by omega)).with m0 (vle_args hv 0 (by omega))
    have hc' := ih _ (arg_mem (t := a) (i := 1) (by omega)) m1 (w.with (a.arg 0)) K (vle_args hv 1 (by omega)) hww (by omega)
    have hc' : (lim C).call 44 [.href 0 0, dL (w.ctx ++ [a.arg 0]), dT (a.arg 1)] (rfH w) = some (CR.ret (dI (kindW w.wd (a.arg 1) (w.ctx ++ [a.arg 0]))), rfH w) := hc'
    have hwith := rmore_spec w.ctx (a.arg 0) (by omega)
    have f0 : a.args[0]? = some (a.arg 0) := arg_get (by omega)
    have f1 : a.args[1]? = some (a.arg 1) := arg_get (by omega)
    simp only [rfH] at hc hc' ⊢
    by_cases he : typW w.wd (a.arg 0) w.ctx = 0
    · rw [if_neg (by simpa using he)]
      rw [he] at hc
      have h00 : ((0 : Int) != 0) = false := rfl
      rw [ev_fn 44 Tryz.f44 _ _ _ rfl Tryz.func44 rfl Tryz.ntmps44 rfl]
      simp -implicitDefEqProofs (disch := decide +kernel) only [go_sem, ↓reduceIte, Nat.reduceSub, Nat.reduceAdd, Nat.reduceMul, Nat.reduceBEq, Nat.reduceLT, Nat.reduceLeDiff, Nat.reduceEqDiff, reduceCtorEq, Int.reduceToNat, Int.reduceLE, Int.reduceLT, Int.reduceBEq, Int.reduceBNe, mCall, cells_enc, cel3, k1, f0, f1, hc, h00, hwith, hc', (enc_eq (a.arg 0)).symm, (enc_eq (a.arg 1)).symm]
    · rw [if_pos (by simpa using he)]
      have he' : (typW w.wd (a.arg 0) w.ctx != 0) = true := by simpa using he
      rw [ev_fn 44 Tryz.f44 _ _ _ rfl Tryz.func44 rfl Tryz.ntmps44 rfl]
      simp -implicitDefEqProofs (disch := decide +kernel) only [go_sem, ↓reduceIte, Nat.reduceSub, Nat.reduceAdd, Nat.reduceMul, Nat.reduceBEq, Nat.reduceLT, Nat.reduceLeDiff, Nat.reduceEqDiff, reduceCtorEq, Int.reduceToNat, Int.reduceLE, Int.reduceLT, Int.reduceBEq, Int.reduceBNe, mCall, cells_enc, cel3, k1, f0, f1, hc, he', (enc_eq (a.arg 0)).symm]
  · rw [kindW_no _ k0 k1]
    have k1' : (a.kind != 1) = true := by simpa using k1
    simp only [rfH]
    rw [ev_fn 44 Tryz.f44 _ _ _ rfl Tryz.func44 rfl Tryz.ntmps44 rfl]
    simp -implicitDefEqProofs (disch := decide +kernel) only [go_sem, ↓reduceIte, Nat.reduceSub, Nat.reduceAdd, Nat.reduceMul, Nat.reduceBEq, Nat.reduceLT, Nat.reduceLeDiff, Nat.reduceEqDiff, reduceCtorEq, Int.reduceToNat, Int.reduceLE, Int.reduceLT, Int.reduceBEq, Int.reduceBNe, mCall, cells_enc, cel3, k0', k1']
theorem rType_spec {K : Int} {w : Wo} (h : WIn K w) (a : Tm) (ha : a.size < room) (hva : vleB K a = true) :
    ∃ h, (lim C).call 25 [dDs w.sig, dMs w.metas, dL w.ctx, dT a] [] = some (.ret (dI (TypR w.wd w.ctx a)), h) := by
  have hr : room = 1099511627776 := rfl
  have ht := h.top
  have hc := rMay_spec w [a] h.sz (by simp; omega) (by simpa using ha)
  have hl2' : [enc a] = encs [a] := rfl
  unfold TypR
  cases hmw : mayW w.wd w.ctx [a]
  · rw [hmw] at hc
    refine ⟨[], ?_⟩
    rw [ev_fn 25 Tryz.f25 _ _ _ rfl Tryz.func25 rfl Tryz.ntmps25 rfl]
    simp -implicitDefEqProofs (disch := decide +kernel) only [go_sem, ↓reduceIte, Nat.reduceSub, Nat.reduceAdd, Nat.reduceMul, Nat.reduceBEq, Nat.reduceLT, Nat.reduceLeDiff, Nat.reduceEqDiff, reduceCtorEq, Int.reduceToNat, Int.reduceLE, Int.reduceLT, Int.reduceBEq, Int.reduceBNe, mCall, hc, hl2', cells_enc, cel3, (enc_eq a).symm]
  · rw [hmw] at hc
    obtain ⟨o1, o2⟩ := h.ok hmw
    have hms := (may_parts (o2 a (by simp))).2.1
    have hcc := rtyp_spec a (o2 a (by simp)) w K hva (o1.mono (Int.le_refl K) (by omega)) (by omega)
    rw [if_pos rfl]
    refine ⟨rfH w, ?_⟩
    simp only [rfH] at hcc ⊢
    rw [ev_fn 25 Tryz.f25 _ _ _ rfl Tryz.func25 rfl Tryz.ntmps25 rfl]
    simp -implicitDefEqProofs (disch := decide +kernel) only [go_sem, ↓reduceIte, Nat.reduceSub, Nat.reduceAdd, Nat.reduceMul, Nat.reduceBEq, Nat.reduceLT, Nat.reduceLeDiff, Nat.reduceEqDiff, reduceCtorEq, Int.reduceToNat, Int.reduceLE, Int.reduceLT, Int.reduceBEq, Int.reduceBNe, mCall, hc, hcc, hl2', cells_enc, cel3, (enc_eq a).symm]
theorem rKind_spec {K : Int} {w : Wo} (h : WIn K w) (a : Tm) (ha : a.size < room) (hva : vleB K a = true) :
    ∃ h, (lim C).call 24 [dDs w.sig, dMs w.metas, dL w.ctx, dT a] [] = some (.ret (dI (KindR w.wd w.ctx a)), h) := by
  have hr : room = 1099511627776 := rfl
  have ht := h.top
  have hc := rMay_spec w [a] h.sz (by simp; omega) (by simpa using ha)
  have hl2' : [enc a] = encs [a] := rfl
  unfold KindR
  cases hmw : mayW w.wd w.ctx [a]
  · rw [hmw] at hc
    refine ⟨[], ?_⟩
    rw [ev_fn 24 Tryz.f24 _ _ _ rfl Tryz.func24 rfl Tryz.ntmps24 rfl]
    simp -implicitDefEqProofs (disch := decide +kernel) only [go_sem, ↓reduceIte, Nat.reduceSub, Nat.reduceAdd, Nat.reduceMul, Nat.reduceBEq, Nat.reduceLT, Nat.reduceLeDiff, Nat.reduceEqDiff, reduceCtorEq, Int.reduceToNat, Int.reduceLE, Int.reduceLT, Int.reduceBEq, Int.reduceBNe, mCall, hc, hl2', cells_enc, cel3, (enc_eq a).symm]
  · rw [hmw] at hc
    obtain ⟨o1, o2⟩ := h.ok hmw
    have hms := (may_parts (o2 a (by simp))).2.1
    have hcc := rkindT_spec a (o2 a (by simp)) w K hva (o1.mono (Int.le_refl K) (by omega)) (by omega)
    rw [if_pos rfl]
    refine ⟨rfH w, ?_⟩
    simp only [rfH] at hcc ⊢
    rw [ev_fn 24 Tryz.f24 _ _ _ rfl Tryz.func24 rfl Tryz.ntmps24 rfl]
    simp -implicitDefEqProofs (disch := decide +kernel) only [go_sem, ↓reduceIte, Nat.reduceSub, Nat.reduceAdd, Nat.reduceMul, Nat.reduceBEq, Nat.reduceLT, Nat.reduceLeDiff, Nat.reduceEqDiff, reduceCtorEq, Int.reduceToNat, Int.reduceLE, Int.reduceLT, Int.reduceBEq, Int.reduceBNe, mCall, hc, hcc, hl2', cells_enc, cel3, (enc_eq a).symm]
end Go.Proofs.YtbcoacljjhbonaaGreat
/- The reference of layer 11: Sig, Ctx, Schema, Conforms. -/
set_option linter.unusedSimpArgs false
set_option linter.unusedVariables false
set_option maxRecDepth 100000
namespace Go.Proofs.YtbcoacljjhbonaaGreat
open Go.Proofs
theorem fc_split (W : Nat → Int) : ∀ n, (∀ j, j < n → W j = 0) ∨ ∃ j, j < n ∧ W j ≠ 0 ∧ ∀ l, l < j → W l = 0
  | 0 => .inl fun j h => by omega
  | n + 1 => by
    rcases fc_split W n with h | ⟨j, h1, h2, h3⟩
    · by_cases e : W n = 0
      · exact .inl fun j hj => by
          rcases Nat.lt_succ_iff_lt_or_eq.1 hj with hj | rfl
          · exact h j hj
          · exact e
      · exact .inr ⟨n, by omega, e, h⟩
    · exact .inr ⟨j, by omega, h2, h3⟩
theorem fst_hit {W : Nat → Int} {i : Nat} (hp : ∀ k, k < i → W k = 0) (hw : W i ≠ 0) : ∀ k j, j ≤ i → i < j + k → fstR W k j = ((i : Int), W i)
  | 0, j, h1, h2 => by omega
  | k + 1, j, h1, h2 => by
    unfold fstR
    rcases Nat.eq_or_lt_of_le h1 with rfl | h1
    · rw [if_pos hw]
    · rw [if_neg (by simpa using hp j h1)]
      exact fst_hit hp hw k (j + 1) h1 (by omega)
theorem fst_miss {W : Nat → Int} : ∀ k j, (∀ i, j ≤ i → i < j + k → W i = 0) → fstR W k j = (0, 0)
  | 0, j, h => rfl
  | k + 1, j, h => by
    unfold fstR
    rw [if_neg (by simpa using h j (Nat.le_refl j) (by omega))]
    exact fst_miss k (j + 1) fun i h1 h2 => h i (by omega) (by omega)
theorem WIn.takeD {K : Int} {sg : List Dc} (h : WIn K ⟨sg, [], []⟩) (i : Nat) : WIn K ⟨sg.take i, [], []⟩ := by
  have h1 := h.sz.sl
  have h1 : sg.length < room := h1
  exact ⟨⟨h.sz.cl, h.sz.cz, by simp; omega, fun d hd => h.sz.sz d (List.mem_of_mem_take hd), h.sz.ml, h.sz.mz⟩, h.hk, h.top, h.ctx, fun d hd => h.sig d (List.mem_of_mem_take hd), h.metas⟩
def rs_S (sg : List Dc) (i : Nat) : St := mk 45 [(0, dDs sg), (4, dI i)] [] [] []
theorem rsig_step {K : Int} {sg : List Dc} (hin : WIn K ⟨sg, [], []⟩) {i : Nat} (hi : i < sg.length) :
    (lim C).code 8 (cf (cf (cs (cf (cs (cs (bodyOf Tryz.f8))))))) (rs_S sg i) = some (if sigW sg i = 0 then (.nor, rs_S sg (i + 1)) else (.ret, mk 45 [(2, dI i), (3, dI (sigW sg i))] [] [] [])) := by
  have hr : room = 1099511627776 := rfl
  have hsl := hin.sz.sl
  have hsl : sg.length < room := hsl
  have zt := hin.sz.sz _ (dat_mem hi)
  have vt := hin.sig _ (dat_mem hi)
  obtain ⟨h1, c1⟩ := rType_spec (hin.takeD i) (Dcs.at sg i).t zt vt
  obtain ⟨h2, c2⟩ := rKind_spec (hin.takeD i) (Dcs.at sg i).t zt vt
  have c1 : (lim C).call 25 [.d (.slc (encDs (sg.take i))), .d (.slc []), .d (.slc []), dT (Dcs.at sg i).t] [] = some (.ret (dI (TypR (Wo.wd ⟨sg.take i, [], []⟩) [] (Dcs.at sg i).t)), h1) := c1
  have c2 : (lim C).call 24 [.d (.slc (encDs (sg.take i))), .d (.slc []), .d (.slc []), dT (Dcs.at sg i).t] [] = some (.ret (dI (KindR (Wo.wd ⟨sg.take i, [], []⟩) [] (Dcs.at sg i).t)), h2) := c2
  rw [encDs_take] at c1 c2
  have hle : i ≤ sg.length := by omega
  have hk := rkind_spec (Dcs.at sg i).t zt
  have hk' : isKind (Dcs.at sg i).t = ((lastOf (Dcs.at sg i).t).kind == 0) := rfl
  have hsw : sigW sg i = if ((lastOf (Dcs.at sg i).t).kind == 0) = true then KindR (Wo.wd ⟨sg.take i, [], []⟩) [] (Dcs.at sg i).t else TypR (Wo.wd ⟨sg.take i, [], []⟩) [] (Dcs.at sg i).t := by
    unfold sigW; rw [hk']
  generalize sigW sg i = v at hsw ⊢
  have h01 : ((0 : Int) != 0) = false := rfl
  have hg := dat_get hi
  cases k1 : ((lastOf (Dcs.at sg i).t).kind == 0)
  · rw [k1] at hk hsw
    rw [if_neg (by decide)] at hsw
    subst hsw
    generalize TypR (Wo.wd ⟨sg.take i, [], []⟩) [] (Dcs.at sg i).t = v at *
    by_cases e : v = 0
    · subst e
      simp -implicitDefEqProofs (disch := decide +kernel) only [cf, cs, bodyOf, Tryz.f8, Option.getD_some, go_sem, ↓reduceIte, Nat.reduceSub, Nat.reduceAdd, Nat.reduceMul, Nat.reduceBEq, Nat.reduceLT, Nat.reduceLeDiff, Nat.reduceEqDiff, reduceCtorEq, Int.reduceToNat, Int.reduceLE, Int.reduceLT, Int.reduceBEq, Int.reduceBNe, mCall, rs_S, lt_true hi, hg, hk, c1, h01, Nat.zero_le, hle, encDs_all, cells_encD, (enc_eq (Dcs.at sg i).t).symm, wrap_succ (n := i) (by omega)]
    · have e' : (v != 0) = true := by simpa using e
      rw [if_neg e]
      simp -implicitDefEqProofs (disch := decide +kernel) only [cf, cs, bodyOf, Tryz.f8, Option.getD_some, go_sem, ↓reduceIte, Nat.reduceSub, Nat.reduceAdd, Nat.reduceMul, Nat.reduceBEq, Nat.reduceLT, Nat.reduceLeDiff, Nat.reduceEqDiff, reduceCtorEq, Int.reduceToNat, Int.reduceLE, Int.reduceLT, Int.reduceBEq, Int.reduceBNe, mCall, rs_S, lt_true hi, hg, hk, c1, e', Nat.zero_le, hle, encDs_all, cells_encD, (enc_eq (Dcs.at sg i).t).symm]
  · rw [k1] at hk hsw
    rw [if_pos rfl] at hsw
    subst hsw
    generalize KindR (Wo.wd ⟨sg.take i, [], []⟩) [] (Dcs.at sg i).t = v at *
    by_cases e : v = 0
    · subst e
      simp -implicitDefEqProofs (disch := decide +kernel) only [cf, cs, bodyOf, Tryz.f8, Option.getD_some, go_sem, ↓reduceIte, Nat.reduceSub, Nat.reduceAdd, Nat.reduceMul, Nat.reduceBEq, Nat.reduceLT, Nat.reduceLeDiff, Nat.reduceEqDiff, reduceCtorEq, Int.reduceToNat, Int.reduceLE, Int.reduceLT, Int.reduceBEq, Int.reduceBNe, mCall, rs_S, lt_true hi, hg, hk, c2, h01, Nat.zero_le, hle, encDs_all, cells_encD, (enc_eq (Dcs.at sg i).t).symm, wrap_succ (n := i) (by omega)]
    · have e' : (v != 0) = true := by simpa using e
      rw [if_neg e]
      simp -implicitDefEqProofs (disch := decide +kernel) only [cf, cs, bodyOf, Tryz.f8, Option.getD_some, go_sem, ↓reduceIte, Nat.reduceSub, Nat.reduceAdd, Nat.reduceMul, Nat.reduceBEq, Nat.reduceLT, Nat.reduceLeDiff, Nat.reduceEqDiff, reduceCtorEq, Int.reduceToNat, Int.reduceLE, Int.reduceLT, Int.reduceBEq, Int.reduceBNe, mCall, rs_S, lt_true hi, hg, hk, c2, e', Nat.zero_le, hle, encDs_all, cells_encD, (enc_eq (Dcs.at sg i).t).symm]
theorem r11Sig_spec {K : Int} {sg : List Dc} (hin : WIn K ⟨sg, [], []⟩) : (lim C).call 8 [dDs sg] [] = some (.ret (.tup [dI (SigR sg).1, dI (SigR sg).2]), []) := by
  have hr : room = 1099511627776 := rfl
  have hsl := hin.sz.sl
  have hsl : sg.length < room := hsl
  unfold SigR firstR
  rw [ev_fn 8 Tryz.f8 _ _ _ rfl Tryz.func8 rfl Tryz.ntmps8 rfl]
  cases k1 : decide ((sg.length : Int) > 40)
  · rw [if_neg (by simpa using k1)]
    simp -implicitDefEqProofs (disch := decide +kernel) only [go_sem, ↓reduceIte, Nat.reduceSub, Nat.reduceAdd, Nat.reduceMul, Nat.reduceBEq, Nat.reduceLT, Nat.reduceLeDiff, Nat.reduceEqDiff, reduceCtorEq, Int.reduceToNat, Int.reduceLE, Int.reduceLT, Int.reduceBEq, Int.reduceBNe, mCall, k1]
    rcases fc_split (sigW sg) sg.length with ha | ⟨i, hi, hne, hp⟩
    · have hloop : (lim C).code 8 (.loop (cf (cf (cs (cf (cs (cs (bodyOf Tryz.f8)))))))) (rs_S sg 0) = some (.exit 0, mk 45 [(0, dDs sg), (4, dI sg.length), (13, dB false)] [] [] []) := by
        refine loop_run (rs_S sg) sg.length (fun i hi => by rw [rsig_step hin hi, if_pos (ha i hi)]) ?_ (by simp)
        simp -implicitDefEqProofs (disch := decide +kernel) only [cf, cs, bodyOf, Tryz.f8, Option.getD_some, go_sem, ↓reduceIte, Nat.reduceSub, Nat.reduceAdd, Nat.reduceMul, Nat.reduceBEq, Nat.reduceLT, Nat.reduceLeDiff, Nat.reduceEqDiff, reduceCtorEq, Int.reduceToNat, Int.reduceLE, Int.reduceLT, Int.reduceBEq, Int.reduceBNe, mCall, rs_S, lt_false (Nat.le_refl sg.length)]
      rw [loop_at hloop ?hb ?hs]
      case hb => rfl
      case hs => rfl
      rw [fst_miss sg.length 0 fun i _ h => ha i (by omega)]
      simp -implicitDefEqProofs (disch := decide +kernel) only [go_sem, ↓reduceIte, Nat.reduceSub, Nat.reduceAdd, Nat.reduceMul, Nat.reduceBEq, Nat.reduceLT, Nat.reduceLeDiff, Nat.reduceEqDiff, reduceCtorEq, Int.reduceToNat, Int.reduceLE, Int.reduceLT, Int.reduceBEq, Int.reduceBNe, mCall]
    · have hloop : (lim C).code 8 (.loop (cf (cf (cs (cf (cs (cs (bodyOf Tryz.f8)))))))) (rs_S sg 0) = some (.ret, mk 45 [(2, dI i), (3, dI (sigW sg i))] [] [] []) := by
        refine loop_run (rs_S sg) i (fun k hk => by rw [rsig_step hin (by omega), if_pos (hp k hk)]) ?_ (by simp)
        rw [rsig_step hin hi, if_neg hne]
      rw [loop_at hloop ?hb ?hs]
      case hb => rfl
      case hs => rfl
      rw [fst_hit hp hne sg.length 0 (Nat.zero_le i) (by omega)]
      simp -implicitDefEqProofs (disch := decide +kernel) only [go_sem, ↓reduceIte, Nat.reduceSub, Nat.reduceAdd, Nat.reduceMul, Nat.reduceBEq, Nat.reduceLT, Nat.reduceLeDiff, Nat.reduceEqDiff, reduceCtorEq, Int.reduceToNat, Int.reduceLE, Int.reduceLT, Int.reduceBEq, Int.reduceBNe, mCall]
  · rw [if_pos (by simpa using k1)]
    simp -implicitDefEqProofs (disch := decide +kernel) only [go_sem, ↓reduceIte, Nat.reduceSub, Nat.reduceAdd, Nat.reduceMul, Nat.reduceBEq, Nat.reduceLT, Nat.reduceLeDiff, Nat.reduceEqDiff, reduceCtorEq, Int.reduceToNat, Int.reduceLE, Int.reduceLT, Int.reduceBEq, Int.reduceBNe, mCall, k1]
theorem loop_first {f : Nat} {b : Code} (S : Nat → St) (W : Nat → Int) (n : Nat) {E : Ex × St} {R : Int × Int → St} (h : ∀ i, i < n → (∀ j, j < i → W j = 0) → W i = 0 → (lim C).code f b (S i) = some (.nor, S (i + 1)))
    (hr : ∀ i, i < n → (∀ j, j < i → W j = 0) → W i ≠ 0 → (lim C).code f b (S i) = some (.ret, R ((i : Int), W i))) (he : (lim C).code f b (S n) = some E) (hE : E.1 ≠ .nor) :
    (lim C).code f (.loop b) (S 0) = some (if (fstR W n 0).2 = 0 then E else (.ret, R (fstR W n 0))) := by
  rcases fc_split W n with ha | ⟨i, hi, hne, hp⟩
  · rw [fst_miss n 0 fun i _ h => ha i (by omega), if_pos rfl]
    exact loop_run S n (fun i hi => h i hi (fun j hj => ha j (by omega)) (ha i hi)) he hE
  · rw [fst_hit hp hne n 0 (Nat.zero_le i) (by omega), if_neg hne]
    exact loop_run S i (fun k hk => h k (by omega) (fun j hj => hp j (by omega)) (hp k hk)) (hr i hi hp hne) (by simp)
theorem app_own (xs ys : List Dv) (locs : List (Option (List AV))) (heap : List HO) (hr : xs.length + ys.length ≤ room) (hx : (xs.all fun x => x.width == 3) = true) (hw : (ys.all fun x => x.width == 3) = true) :
    mApp (.own 0 xs) ys 3 { locs := locs, heap := heap, toks := [some xs.length] } = some (.v (.own 0 (xs ++ ys)), { locs := locs, heap := heap, toks := [some (xs ++ ys).length] }) := by
  simp only [mApp, appOwn]
  simp only [hr, hx, hw]
  simp
def rc_S (sg : List Dc) (ms : List Md) (ar cx : List Tm) (i : Nat) : St := mk 41 [(0, dDs sg), (1, dMs ms), (3, dL cx), (9, .own 0 (encs (ar ++ cx.take i))), (10, dI i)] [] [] [some (encs (ar ++ cx.take i)).length]
theorem r11Ctx_spec {K : Int} {sg : List Dc} {ms : List Md} {ar cx : List Tm} (hin : WIn K ⟨sg, ms, ar⟩) (hcz : ∀ x ∈ cx, x.size < room ∧ vleB K x = true) (hcl : ar.length + cx.length < room) : (lim C).call 11 [dDs sg, dMs ms, dL ar, dL cx] [] = some (.ret (dI (CtxWR (Wo.wd ⟨sg, ms, ar⟩) ar cx)), []) := by
  have hr : room = 1099511627776 := rfl
  have hc1 : ∀ i, i < cx.length → ∃ h, (lim C).call 25 [dDs sg, dMs ms, .d (.slc (encs (ar ++ cx.take i))), dT (cx.getD i default)] [] = some (.ret (dI (ctxW (Wo.wd ⟨sg, ms, ar⟩) ar cx i)), h) := fun i hi => by
    have hin2 : WIn K ⟨sg, ms, ar ++ cx.take i⟩ := hin.cons (fun x hx => by
      rcases List.mem_append.1 hx with hx | hx
      · exact ⟨hin.sz.cz x hx, hin.ctx x hx⟩
      · exact hcz x (List.mem_of_mem_take hx)) (by simp; omega)
    obtain ⟨z1, z2⟩ := hcz _ (getD_mem (a := cx) hi)
    exact rType_spec hin2 (cx.getD i default) z1 z2
  have hs : ∀ i, i < cx.length → encs (ar ++ cx.take i) ++ [enc (cx.getD i default)] = encs (ar ++ cx.take (i + 1)) := fun i hi => by
    rw [List.take_add_one, getD_get hi, ← List.append_assoc, encs_append (ar ++ cx.take i)]; rfl
  have h01 : ((0 : Int) != 0) = false := rfl
  have hloop : (lim C).code 11 (.loop (cf (cf (cs (cf (cs (cs (cs (bodyOf Tryz.f11))))))))) (rc_S sg ms ar cx 0) = some (if (fstR (ctxW (Wo.wd ⟨sg, ms, ar⟩) ar cx) cx.length 0).2 = 0 then (.exit 0, mk 41 [(0, dDs sg), (1, dMs ms), (3, dL cx), (9, .own 0 (encs (ar ++ cx))), (10, dI cx.length), (20, dB false)] [] [] [some (encs (ar ++ cx)).length]) else (.ret, (fun r : Int × Int => mk 41 [(8, dI r.2)] [] [] [some (encs (ar ++ cx.take r.1.toNat)).length]) (fstR (ctxW (Wo.wd ⟨sg, ms, ar⟩) ar cx) cx.length 0))) := by
    refine loop_first (rc_S sg ms ar cx) _ cx.length (R := fun r : Int × Int => mk 41 [(8, dI r.2)] [] [] [some (encs (ar ++ cx.take r.1.toNat)).length]) (fun i hi hp h0 => ?_) (fun i hi hp h0 => ?_) ?_ (by simp)
    · obtain ⟨h, c1⟩ := hc1 i hi
      rw [h0] at c1
      have ha := fun locs heap => app_own (encs (ar ++ cx.take i)) [enc (cx.getD i default)] locs heap (by rw [encs_length]; simp; omega) (encs_all _) (by simp [enc_width])
      rw [hs i hi] at ha
      simp only [encs_length] at ha
      simp -implicitDefEqProofs (disch := decide +kernel) only [cf, cs, bodyOf, Tryz.f11, Option.getD_some, go_sem, ↓reduceIte, Nat.reduceSub, Nat.reduceAdd, Nat.reduceMul, Nat.reduceBEq, Nat.reduceLT, Nat.reduceLeDiff, Nat.reduceEqDiff, reduceCtorEq, Int.reduceToNat, Int.reduceLE, Int.reduceLT, Int.reduceBEq, Int.reduceBNe, mCall, rc_S, lt_true hi, getD_get hi, c1, h01, ha, cells_enc, cel3, (enc_eq (cx.getD i default)).symm, wrap_succ (n := i) (by omega)]
    · obtain ⟨h, c1⟩ := hc1 i hi
      have e' : (ctxW (Wo.wd ⟨sg, ms, ar⟩) ar cx i != 0) = true := by simpa using h0
      simp -implicitDefEqProofs (disch := decide +kernel) only [cf, cs, bodyOf, Tryz.f11, Option.getD_some, go_sem, ↓reduceIte, Nat.reduceSub, Nat.reduceAdd, Nat.reduceMul, Nat.reduceBEq, Nat.reduceLT, Nat.reduceLeDiff, Nat.reduceEqDiff, reduceCtorEq, Int.reduceToNat, Int.reduceLE, Int.reduceLT, Int.reduceBEq, Int.reduceBNe, mCall, rc_S, lt_true hi, getD_get hi, c1, e', cells_enc, cel3, (enc_eq (cx.getD i default)).symm, Int.toNat_natCast]
    · simp -implicitDefEqProofs (disch := decide +kernel) only [cf, cs, bodyOf, Tryz.f11, Option.getD_some, go_sem, ↓reduceIte, Nat.reduceSub, Nat.reduceAdd, Nat.reduceMul, Nat.reduceBEq, Nat.reduceLT, Nat.reduceLeDiff, Nat.reduceEqDiff, reduceCtorEq, Int.reduceToNat, Int.reduceLE, Int.reduceLT, Int.reduceBEq, Int.reduceBNe, mCall, rc_S, lt_false (Nat.le_refl cx.length), List.take_length]
  have e0 : rc_S sg ms ar cx 0 = mk 41 [(0, dDs sg), (1, dMs ms), (3, dL cx), (9, .own 0 (encs ar)), (10, dI 0)] [] [] [some ar.length] := by
    simp only [rc_S, List.take_zero, List.append_nil, encs_length]; rfl
  rw [e0] at hloop
  have ha1 := app_first (encs ar) 3 (ll 41 []) [] (by rw [encs_length]; omega) (encs_all _)
  unfold CtxWR firstR
  rw [ev_fn 11 Tryz.f11 _ _ _ rfl Tryz.func11 rfl Tryz.ntmps11 rfl]
  cases k1 : decide ((cx.length : Int) > 40)
  · rw [if_neg (by simpa using k1)]
    simp -implicitDefEqProofs (disch := decide +kernel) only [go_sem, ↓reduceIte, Nat.reduceSub, Nat.reduceAdd, Nat.reduceMul, Nat.reduceBEq, Nat.reduceLT, Nat.reduceLeDiff, Nat.reduceEqDiff, reduceCtorEq, Int.reduceToNat, Int.reduceLE, Int.reduceLT, Int.reduceBEq, Int.reduceBNe, mCall, k1, ha1]
    rw [loop_at hloop ?hb ?hs]
    case hb => rfl
    case hs => rfl
    by_cases e : (fstR (ctxW (Wo.wd ⟨sg, ms, ar⟩) ar cx) cx.length 0).2 = 0
    · rw [if_pos e]
      simp -implicitDefEqProofs (disch := decide +kernel) only [go_sem, ↓reduceIte, Nat.reduceSub, Nat.reduceAdd, Nat.reduceMul, Nat.reduceBEq, Nat.reduceLT, Nat.reduceLeDiff, Nat.reduceEqDiff, reduceCtorEq, Int.reduceToNat, Int.reduceLE, Int.reduceLT, Int.reduceBEq, Int.reduceBNe, mCall, e]
    · rw [if_neg e]
      simp -implicitDefEqProofs (disch := decide +kernel) only [go_sem, ↓reduceIte, Nat.reduceSub, Nat.reduceAdd, Nat.reduceMul, Nat.reduceBEq, Nat.reduceLT, Nat.reduceLeDiff, Nat.reduceEqDiff, reduceCtorEq, Int.reduceToNat, Int.reduceLE, Int.reduceLT, Int.reduceBEq, Int.reduceBNe, mCall, e]
  · rw [if_pos (by simpa using k1)]
    simp -implicitDefEqProofs (disch := decide +kernel) only [go_sem, ↓reduceIte, Nat.reduceSub, Nat.reduceAdd, Nat.reduceMul, Nat.reduceBEq, Nat.reduceLT, Nat.reduceLeDiff, Nat.reduceEqDiff, reduceCtorEq, Int.reduceToNat, Int.reduceLE, Int.reduceLT, Int.reduceBEq, Int.reduceBNe, mCall, k1]
def rh_S (sg : List Dc) (l : List Tm) (i : Nat) : St := mk 31 [(0, dDs sg), (1, dL l), (5, dI i)] [] [] []
theorem r11Schema_spec {K : Int} {sg : List Dc} {l : List Tm} (hin : WIn K ⟨sg, [], []⟩) (hz : ∀ x ∈ l, x.size < room ∧ vleB K x = true) (hl : l.length < room) : (lim C).call 13 [dDs sg, dL l] [] = some (.ret (dI (SchemaR (Wo.wd ⟨sg, [], []⟩) l)), []) := by
  have hr : room = 1099511627776 := rfl
  have h01 : ((0 : Int) != 0) = false := rfl
  have hloop : (lim C).code 13 (.loop (cf (cf (cs (cf (cs (cs (bodyOf Tryz.f13)))))))) (rh_S sg l 0) = some (if (fstR (schW (Wo.wd ⟨sg, [], []⟩) l) l.length 0).2 = 0 then (.exit 0, mk 31 [(0, dDs sg), (1, dL l), (5, dI l.length), (13, dB false)] [] [] []) else (.ret, (fun r : Int × Int => mk 31 [(4, dI r.2)] [] [] []) (fstR (schW (Wo.wd ⟨sg, [], []⟩) l) l.length 0))) := by
    refine loop_first (rh_S sg l) _ l.length (R := fun r : Int × Int => mk 31 [(4, dI r.2)] [] [] []) (fun i hi hp h0 => ?_) (fun i hi hp h0 => ?_) ?_ (by simp)
    · obtain ⟨z1, z2⟩ := hz _ (getD_mem (a := l) hi)
      obtain ⟨h, c1⟩ := rType_spec hin (l.getD i default) z1 z2
      have c1 : (lim C).call 25 [dDs sg, .d (.slc []), .d (.slc []), dT (l.getD i default)] [] = some (.ret (dI (TypR (Wo.wd ⟨sg, [], []⟩) [] (l.getD i default))), h) := c1
      unfold schW at h0
      by_cases hk : (l.getD i default).kind ≠ 2
      · rw [if_pos hk] at h0; cases h0
      · rw [if_neg hk] at h0
        rw [h0] at c1
        have hk' : ((l.getD i default).kind != 2) = false := by simpa using hk
        simp -implicitDefEqProofs (disch := decide +kernel) only [cf, cs, bodyOf, Tryz.f13, Option.getD_some, go_sem, ↓reduceIte, Nat.reduceSub, Nat.reduceAdd, Nat.reduceMul, Nat.reduceBEq, Nat.reduceLT, Nat.reduceLeDiff, Nat.reduceEqDiff, reduceCtorEq, Int.reduceToNat, Int.reduceLE, Int.reduceLT, Int.reduceBEq, Int.reduceBNe, mCall, rh_S, lt_true hi, getD_get hi, hk', c1, h01, cells_enc, cel3, (enc_eq (l.getD i default)).symm, wrap_succ (n := i) (by omega)]
    · obtain ⟨z1, z2⟩ := hz _ (getD_mem (a := l) hi)
      obtain ⟨h, c1⟩ := rType_spec hin (l.getD i default) z1 z2
      have c1 : (lim C).call 25 [dDs sg, .d (.slc []), .d (.slc []), dT (l.getD i default)] [] = some (.ret (dI (TypR (Wo.wd ⟨sg, [], []⟩) [] (l.getD i default))), h) := c1
      unfold schW at h0 ⊢
      by_cases hk : (l.getD i default).kind ≠ 2
      · rw [if_pos hk]
        have hk' : ((l.getD i default).kind != 2) = true := by simpa using hk
        simp -implicitDefEqProofs (disch := decide +kernel) only [cf, cs, bodyOf, Tryz.f13, Option.getD_some, go_sem, ↓reduceIte, Nat.reduceSub, Nat.reduceAdd, Nat.reduceMul, Nat.reduceBEq, Nat.reduceLT, Nat.reduceLeDiff, Nat.reduceEqDiff, reduceCtorEq, Int.reduceToNat, Int.reduceLE, Int.reduceLT, Int.reduceBEq, Int.reduceBNe, mCall, rh_S, lt_true hi, getD_get hi, hk', cells_enc, cel3]
      · rw [if_neg hk] at h0 ⊢
        have hk' : ((l.getD i default).kind != 2) = false := by simpa using hk
        have e' : (TypR (Wo.wd ⟨sg, [], []⟩) [] (l.getD i default) != 0) = true := by simpa using h0
        simp -implicitDefEqProofs (disch := decide +kernel) only [cf, cs, bodyOf, Tryz.f13, Option.getD_some, go_sem, ↓reduceIte, Nat.reduceSub, Nat.reduceAdd, Nat.reduceMul, Nat.reduceBEq, Nat.reduceLT, Nat.reduceLeDiff, Nat.reduceEqDiff, reduceCtorEq, Int.reduceToNat, Int.reduceLE, Int.reduceLT, Int.reduceBEq, Int.reduceBNe, mCall, rh_S, lt_true hi, getD_get hi, hk', c1, e', cells_enc, cel3, (enc_eq (l.getD i default)).symm]
    · simp -implicitDefEqProofs (disch := decide +kernel) only [cf, cs, bodyOf, Tryz.f13, Option.getD_some, go_sem, ↓reduceIte, Nat.reduceSub, Nat.reduceAdd, Nat.reduceMul, Nat.reduceBEq, Nat.reduceLT, Nat.reduceLeDiff, Nat.reduceEqDiff, reduceCtorEq, Int.reduceToNat, Int.reduceLE, Int.reduceLT, Int.reduceBEq, Int.reduceBNe, mCall, rh_S, lt_false (Nat.le_refl l.length)]
  unfold SchemaR firstR
  rw [ev_fn 13 Tryz.f13 _ _ _ rfl Tryz.func13 rfl Tryz.ntmps13 rfl]
  cases k1 : decide ((l.length : Int) > 40)
  · rw [if_neg (by simpa using k1)]
    simp -implicitDefEqProofs (disch := decide +kernel) only [go_sem, ↓reduceIte, Nat.reduceSub, Nat.reduceAdd, Nat.reduceMul, Nat.reduceBEq, Nat.reduceLT, Nat.reduceLeDiff, Nat.reduceEqDiff, reduceCtorEq, Int.reduceToNat, Int.reduceLE, Int.reduceLT, Int.reduceBEq, Int.reduceBNe, mCall, k1]
    rw [loop_at hloop ?hb ?hs]
    case hb => rfl
    case hs => rfl
    by_cases e : (fstR (schW (Wo.wd ⟨sg, [], []⟩) l) l.length 0).2 = 0
    · rw [if_pos e]
      simp -implicitDefEqProofs (disch := decide +kernel) only [go_sem, ↓reduceIte, Nat.reduceSub, Nat.reduceAdd, Nat.reduceMul, Nat.reduceBEq, Nat.reduceLT, Nat.reduceLeDiff, Nat.reduceEqDiff, reduceCtorEq, Int.reduceToNat, Int.reduceLE, Int.reduceLT, Int.reduceBEq, Int.reduceBNe, mCall, e]
    · rw [if_neg e]
      simp -implicitDefEqProofs (disch := decide +kernel) only [go_sem, ↓reduceIte, Nat.reduceSub, Nat.reduceAdd, Nat.reduceMul, Nat.reduceBEq, Nat.reduceLT, Nat.reduceLeDiff, Nat.reduceEqDiff, reduceCtorEq, Int.reduceToNat, Int.reduceLE, Int.reduceLT, Int.reduceBEq, Int.reduceBNe, mCall, e]
  · rw [if_pos (by simpa using k1)]
    simp -implicitDefEqProofs (disch := decide +kernel) only [go_sem, ↓reduceIte, Nat.reduceSub, Nat.reduceAdd, Nat.reduceMul, Nat.reduceBEq, Nat.reduceLT, Nat.reduceLeDiff, Nat.reduceEqDiff, reduceCtorEq, Int.reduceToNat, Int.reduceLE, Int.reduceLT, Int.reduceBEq, Int.reduceBNe, mCall, k1]
def hasK (sc : List Tm) (a : Tm) (k : Nat) : Bool := !allB k fun i => !sameB (sc.getD i default) a
theorem allB_snoc (p : Nat → Bool) : ∀ k, allB (k + 1) p = (allB k p && p k) := fun k => by
  rw [Bool.eq_iff_iff, Bool.and_eq_true, allB_iff, allB_iff]
  exact ⟨fun h => ⟨fun i hi => h i (by omega), h k (by omega)⟩, fun h i hi => by
    rcases Nat.lt_succ_iff_lt_or_eq.1 hi with hi | rfl
    · exact h.1 i hi
    · exact h.2⟩
theorem hasK_succ (sc : List Tm) (a : Tm) (k : Nat) : hasK sc a (k + 1) = (hasK sc a k || sameB (sc.getD k default) a) := by
  unfold hasK
  rw [allB_snoc]
  simp
def rn_S (sc l : List Tm) (i k : Nat) : St := mk 36 [(0, dL sc), (1, dL l), (5, dI i), (6, dB (hasK sc (l.getD i default) k)), (7, dI k)] [] [] []
theorem rconf_in {sc l : List Tm} (h1 : sc.length < room) (z1 : ∀ x ∈ sc, x.size < room) {i : Nat} (hi : i < l.length) :
    (lim C).code 9 (.loop (cf (cf (cs (cf (cs (cf (cf (cs (cf (cf (cs (cf (cs (bodyOf Tryz.f9))))))))))))))) (rn_S sc l i 0) = some (.exit 2, mk 36 [(0, dL sc), (1, dL l), (5, dI i), (6, dB (hasB sc (l.getD i default))), (7, dI sc.length), (18, dB false)] [] [] []) := by
  have hr : room = 1099511627776 := rfl
  refine loop_run (rn_S sc l i) sc.length (fun k hk => ?_) ?_ (by simp)
  · have hc := rsame_spec (sc.getD k default) (z1 _ (getD_mem hk)) (l.getD i default)
    have hsu := hasK_succ sc (l.getD i default) k
    cases e1 : hasK sc (l.getD i default) k
    · rw [e1, Bool.false_or] at hsu
      simp -implicitDefEqProofs (disch := decide +kernel) only [cf, cs, bodyOf, Tryz.f9, Option.getD_some, go_sem, ↓reduceIte, Nat.reduceSub, Nat.reduceAdd, Nat.reduceMul, Nat.reduceBEq, Nat.reduceLT, Nat.reduceLeDiff, Nat.reduceEqDiff, reduceCtorEq, Int.reduceToNat, Int.reduceLE, Int.reduceLT, Int.reduceBEq, Int.reduceBNe, mCall, rn_S, e1, hsu, lt_true hk, getD_get hi, getD_get hk, hc, cells_enc, cel3, (enc_eq (l.getD i default)).symm, (enc_eq (sc.getD k default)).symm, wrap_succ (n := k) (by omega)]
    · rw [e1, Bool.true_or] at hsu
      simp -implicitDefEqProofs (disch := decide +kernel) only [cf, cs, bodyOf, Tryz.f9, Option.getD_some, go_sem, ↓reduceIte, Nat.reduceSub, Nat.reduceAdd, Nat.reduceMul, Nat.reduceBEq, Nat.reduceLT, Nat.reduceLeDiff, Nat.reduceEqDiff, reduceCtorEq, Int.reduceToNat, Int.reduceLE, Int.reduceLT, Int.reduceBEq, Int.reduceBNe, mCall, rn_S, e1, hsu, lt_true hk, getD_get hi, getD_get hk, hc, cells_enc, cel3, (enc_eq (l.getD i default)).symm, (enc_eq (sc.getD k default)).symm, wrap_succ (n := k) (by omega)]
  · have hh : hasK sc (l.getD i default) sc.length = hasB sc (l.getD i default) := rfl
    simp -implicitDefEqProofs (disch := decide +kernel) only [cf, cs, bodyOf, Tryz.f9, Option.getD_some, go_sem, ↓reduceIte, Nat.reduceSub, Nat.reduceAdd, Nat.reduceMul, Nat.reduceBEq, Nat.reduceLT, Nat.reduceLeDiff, Nat.reduceEqDiff, reduceCtorEq, Int.reduceToNat, Int.reduceLE, Int.reduceLT, Int.reduceBEq, Int.reduceBNe, mCall, rn_S, hh, lt_false (Nat.le_refl sc.length)]
def ro_S (sc l : List Tm) (i : Nat) : St := mk 36 [(0, dL sc), (1, dL l), (5, dI i)] [] [] []
theorem r11Conf_spec (sc l : List Tm) (h1 : sc.length < room) (z1 : ∀ x ∈ sc, x.size < room) (h2 : l.length < room) : (lim C).call 9 [dL sc, dL l] [] = some (.ret (dB (ConfB sc l)), []) := by
  have hr : room = 1099511627776 := rfl
  have hloop : (lim C).code 9 (.loop (cf (cf (cs (cf (cs (bodyOf Tryz.f9))))))) (ro_S sc l 0) = some (if allB l.length (fun i => hasB sc (l.getD i default)) then (.exit 0, mk 36 [(0, dL sc), (1, dL l), (5, dI l.length), (12, dB false)] [] [] []) else (.ret, mk 36 [(4, dB false)] [] [] [])) := by
    refine loop_all (ro_S sc l) l.length _ (fun i hi hp => ?_) (fun i hi hp => ?_) ?_ (by simp) (by simp)
    · have hin := rconf_in h1 z1 hi
      rw [hp] at hin
      simp -implicitDefEqProofs (disch := decide +kernel) only [cf, cs, bodyOf, Tryz.f9, Option.getD_some, go_sem, ↓reduceIte, Nat.reduceSub, Nat.reduceAdd, Nat.reduceMul, Nat.reduceBEq, Nat.reduceLT, Nat.reduceLeDiff, Nat.reduceEqDiff, reduceCtorEq, Int.reduceToNat, Int.reduceLE, Int.reduceLT, Int.reduceBEq, Int.reduceBNe, mCall, ro_S, lt_true hi]
      rw [loop_at hin ?hb ?hs]
      case hb => rfl
      case hs => rfl
      simp -implicitDefEqProofs (disch := decide +kernel) only [go_sem, ↓reduceIte, Nat.reduceSub, Nat.reduceAdd, Nat.reduceMul, Nat.reduceBEq, Nat.reduceLT, Nat.reduceLeDiff, Nat.reduceEqDiff, reduceCtorEq, Int.reduceToNat, Int.reduceLE, Int.reduceLT, Int.reduceBEq, Int.reduceBNe, mCall, ro_S, wrap_succ (n := i) (by omega)]
    · have hin := rconf_in h1 z1 hi
      rw [hp] at hin
      simp -implicitDefEqProofs (disch := decide +kernel) only [cf, cs, bodyOf, Tryz.f9, Option.getD_some, go_sem, ↓reduceIte, Nat.reduceSub, Nat.reduceAdd, Nat.reduceMul, Nat.reduceBEq, Nat.reduceLT, Nat.reduceLeDiff, Nat.reduceEqDiff, reduceCtorEq, Int.reduceToNat, Int.reduceLE, Int.reduceLT, Int.reduceBEq, Int.reduceBNe, mCall, ro_S, lt_true hi]
      rw [loop_at hin ?hb ?hs]
      case hb => rfl
      case hs => rfl
      simp -implicitDefEqProofs (disch := decide +kernel) only [go_sem, ↓reduceIte, Nat.reduceSub, Nat.reduceAdd, Nat.reduceMul, Nat.reduceBEq, Nat.reduceLT, Nat.reduceLeDiff, Nat.reduceEqDiff, reduceCtorEq, Int.reduceToNat, Int.reduceLE, Int.reduceLT, Int.reduceBEq, Int.reduceBNe, mCall, ro_S]
    · simp -implicitDefEqProofs (disch := decide +kernel) only [cf, cs, bodyOf, Tryz.f9, Option.getD_some, go_sem, ↓reduceIte, Nat.reduceSub, Nat.reduceAdd, Nat.reduceMul, Nat.reduceBEq, Nat.reduceLT, Nat.reduceLeDiff, Nat.reduceEqDiff, reduceCtorEq, Int.reduceToNat, Int.reduceLE, Int.reduceLT, Int.reduceBEq, Int.reduceBNe, mCall, ro_S, lt_false (Nat.le_refl l.length)]
  unfold ConfB
  rw [ev_fn 9 Tryz.f9 _ _ _ rfl Tryz.func9 rfl Tryz.ntmps9 rfl]
  simp -implicitDefEqProofs (disch := decide +kernel) only [go_sem, ↓reduceIte, Nat.reduceSub, Nat.reduceAdd, Nat.reduceMul, Nat.reduceBEq, Nat.reduceLT, Nat.reduceLeDiff, Nat.reduceEqDiff, reduceCtorEq, Int.reduceToNat, Int.reduceLE, Int.reduceLT, Int.reduceBEq, Int.reduceBNe, mCall]
  rw [loop_at hloop ?hb ?hs]
  case hb => rfl
  case hs => rfl
  cases hall : allB l.length (fun i => hasB sc (l.getD i default))
  · simp -implicitDefEqProofs (disch := decide +kernel) only [go_sem, ↓reduceIte, Nat.reduceSub, Nat.reduceAdd, Nat.reduceMul, Nat.reduceBEq, Nat.reduceLT, Nat.reduceLeDiff, Nat.reduceEqDiff, reduceCtorEq, Int.reduceToNat, Int.reduceLE, Int.reduceLT, Int.reduceBEq, Int.reduceBNe, mCall]
  · simp -implicitDefEqProofs (disch := decide +kernel) only [go_sem, ↓reduceIte, Nat.reduceSub, Nat.reduceAdd, Nat.reduceMul, Nat.reduceBEq, Nat.reduceLT, Nat.reduceLeDiff, Nat.reduceEqDiff, reduceCtorEq, Int.reduceToNat, Int.reduceLE, Int.reduceLT, Int.reduceBEq, Int.reduceBNe, mCall]
end Go.Proofs.YtbcoacljjhbonaaGreat
/- Laws of layer 11: the example; in plain words. -/
set_option linter.unusedSimpArgs false
set_option linter.unusedVariables false
set_option maxRecDepth 100000
namespace Go.Proofs.YtbcoacljjhbonaaGreat
open Go.Proofs
theorem fst_cases (W : Nat → Int) : ∀ k i, (∀ j, i ≤ j → j < i + k → W j = 0) ∧ fstR W k i = (0, 0) ∨ ∃ j, i ≤ j ∧ j < i + k ∧ W j ≠ 0 ∧ (∀ l, i ≤ l → l < j → W l = 0) ∧ fstR W k i = ((j : Int), W j)
  | 0, i => .inl ⟨fun j h1 h2 => by omega, rfl⟩
  | k + 1, i => by
    simp only [fstR]
    by_cases h : W i = 0
    · rw [if_neg (by simpa using h)]
      rcases fst_cases W k (i + 1) with ⟨h1, h2⟩ | ⟨j, h1, h2, h3, h4, h5⟩
      · refine .inl ⟨fun j a b => ?_, h2⟩
        rcases Nat.eq_or_lt_of_le a with rfl | a
        · exact h
        · exact h1 j a (by omega)
      · refine .inr ⟨j, by omega, by omega, h3, fun l a b => ?_, h5⟩
        rcases Nat.eq_or_lt_of_le a with rfl | a
        · exact h
        · exact h4 l a b
    · rw [if_pos h]
      exact .inr ⟨i, Nat.le_refl i, by omega, h, fun l a b => by omega, rfl⟩
theorem first_cases (W : Nat → Int) {n : Nat} (hn : n ≤ 40) : (∀ j, j < n → W j = 0) ∧ firstR W n = (0, 0) ∨ ∃ j, j < n ∧ W j ≠ 0 ∧ (∀ l, l < j → W l = 0) ∧ firstR W n = ((j : Int), W j) := by
  unfold firstR
  rw [if_neg (by omega)]
  rcases fst_cases W n 0 with ⟨h1, h2⟩ | ⟨j, h1, h2, h3, h4, h5⟩
  · exact .inl ⟨fun j hj => h1 j (Nat.zero_le j) (by omega), h2⟩
  · exact .inr ⟨j, by omega, h3, fun l hl => h4 l (Nat.zero_le l) hl, h5⟩
theorem first_many (W : Nat → Int) {n : Nat} (hn : 40 < n) : firstR W n = (0, 4) := by
  unfold firstR
  rw [if_pos (by omega)]
theorem first_all {W : Nat → Int} {n : Nat} (hn : n ≤ 40) (h : ∀ j, j < n → W j = 0) : firstR W n = (0, 0) := by
  rcases first_cases W hn with ⟨_, e⟩ | ⟨j, h1, h2, _⟩
  · exact e
  · exact absurd (h j h1) h2
theorem first_ok {W : Nat → Int} {n : Nat} (h : (firstR W n).2 = 0) : n ≤ 40 ∧ ∀ j, j < n → W j = 0 := by
  have hn : n ≤ 40 := by
    rcases Nat.lt_or_ge 40 n with h1 | h1
    · rw [first_many W h1] at h; cases h
    · exact h1
  refine ⟨hn, ?_⟩
  rcases first_cases W hn with ⟨e, _⟩ | ⟨j, h1, h2, _, e⟩
  · exact e
  · rw [e] at h; exact absurd h h2
theorem wd_may {sg : List Dc} (h : ∀ d ∈ sg, mayB d.t = true) {c l : List Tm} (hc : c.length ≤ 1000) (hcm : ∀ x ∈ c, mayB x = true) (hl : ∀ x ∈ l, mayB x = true) : mayW (Wo.wd ⟨sg, [], []⟩) c l = true := by
  unfold mayW
  have h1 : decide ((c.length : Int) > 1000) = false := by simp; omega
  have h2 : maysB (Wo.wd ⟨sg, [], []⟩).sig = true := maysB_iff.2 fun x hx => by
    simp only [Wo.wd, List.mem_map] at hx
    obtain ⟨d, hd, rfl⟩ := hx
    exact h d hd
  rw [h1, maysB_iff.2 hl, maysB_iff.2 hcm, h2]
  rfl
theorem nat_typ {w : Wd} {c : List Tm} (h : 0 < w.sig.length) (h0 : w.sig.getD 0 default = zT) : typW w tNat c = 0 := by
  have hd : declW w tNat.head true = (zT, 0) := by
    have := declW_go (w := w) (h := 0) (kind := true) (by omega) (by unfold kindAt; rw [show (0 : Int).toNat = 0 from rfl, h0]; show ((lastOf zT).kind == 0) = true; rw [show lastOf zT = zT from leaf_last]; rfl)
    rw [show (0 : Int).toNat = 0 from rfl, h0] at this
    exact this
  rw [typW_fam _ rfl]
  refine famW_go (by rw [hd]) ?_ ?_
  · rw [hd]; rfl
  · rw [hd]; rfl
theorem natSig_may : ∀ d ∈ natSig, mayB d.t = true := by
  intro d hd
  simp only [natSig, List.mem_cons, List.not_mem_nil, or_false] at hd
  rcases hd with rfl | rfl | rfl
  · exact zT_may
  · exact tNat_may
  · exact tPi_may
theorem natSig_R : SigR natSig = (0, 0) := by
  refine first_all (by decide) fun j hj => ?_
  have hj : j < 3 := hj
  have hm := fun k => fun d (hd : d ∈ natSig.take k) => natSig_may d (List.mem_of_mem_take hd)
  rcases (show j = 0 ∨ j = 1 ∨ j = 2 by omega) with rfl | rfl | rfl
  · have hk : isKind (Dcs.at natSig 0).t = true := by show ((lastOf zT).kind == 0) = true; rw [show lastOf zT = zT from leaf_last]; rfl
    unfold sigW
    rw [hk, if_pos rfl]
    unfold KindR
    rw [wd_may (hm 0) (by simp) (by simp) (fun x hx => by rw [List.mem_singleton.1 hx]; exact zT_may), if_pos rfl]
    exact kindW_sort _ rfl _
  · have hk : isKind (Dcs.at natSig 1).t = false := by show ((lastOf tNat).kind == 0) = false; rw [show lastOf tNat = tNat from leaf_last]; rfl
    unfold sigW
    rw [hk, if_neg (by decide)]
    unfold TypR
    rw [wd_may (hm 1) (by simp) (by simp) (fun x hx => by rw [List.mem_singleton.1 hx]; exact tNat_may), if_pos rfl]
    exact nat_typ (by decide) rfl
  · have hk : isKind (Dcs.at natSig 2).t = false := by show ((lastOf tPi).kind == 0) = false; rw [tPi_last]; rfl
    unfold sigW
    rw [hk, if_neg (by decide)]
    unfold TypR
    rw [wd_may (hm 2) (by simp) (by simp) (fun x hx => by rw [List.mem_singleton.1 hx]; exact tPi_may), if_pos rfl, show (Dcs.at natSig 2).t = tPi from rfl, typW_pi _ rfl (by decide)]
    rw [show tPi.arg 0 = tNat from rfl, show tPi.arg 1 = tNat from rfl, nat_typ (by decide) rfl, if_neg (by decide)]
    exact nat_typ (by decide) rfl
def swSig : List Dc := [⟨⟨#[122]⟩, tNat⟩, ⟨⟨#[110, 97, 116]⟩, zT⟩]
theorem swSig_R : SigR swSig = (0, 2) := by
  have hk : isKind (Dcs.at swSig 0).t = false := by show ((lastOf tNat).kind == 0) = false; rw [show lastOf tNat = tNat from leaf_last]; rfl
  have hW : sigW swSig 0 = 2 := by
    unfold sigW
    rw [hk, if_neg (by decide)]
    unfold TypR
    rw [wd_may (sg := swSig.take 0) (by simp) (by simp) (by simp) (fun x hx => by rw [List.mem_singleton.1 hx]; exact tNat_may), if_pos rfl, show (Dcs.at swSig 0).t = tNat from rfl, typW_fam _ rfl]
    rfl
  unfold SigR firstR
  rw [if_neg (by decide)]
  show fstR (sigW swSig) (1 + 1) 0 = (0, 2)
  unfold fstR
  rw [hW, if_pos (by decide)]
  rfl
theorem dsz (sg : List Dc) (h : ∀ d ∈ sg, mayB d.t = true) (hl : sg.length < room) : WSz ⟨sg, [], []⟩ := ⟨by show 0 < room; decide, by simp, hl, fun d hd => may_room (h d hd), by show 0 < room; decide, by simp⟩
theorem confB_nat : ConfB [tNat] [tNat, tNat] = true := by
  have h : hasB [tNat] tNat = true := by
    unfold hasB
    show (!((!sameB tNat tNat) && true)) = true
    rw [sameB_refl]; rfl
  show (hasB [tNat] tNat && (hasB [tNat] tNat && true)) = true
  rw [h]; rfl
set_option maxHeartbeats 4000000 in
theorem awake11_spec : (lim C).call 4 [] [] = retB true := by
  have hr : room = 1099511627776 := rfl
  have hz := zT_enc
  have e1 : Dv.agg [.int .i64 2, .int .i64 0, .slc []] = enc tNat := tmc 2 0 [] rfl
  obtain ⟨h1, c1⟩ := wSig_spec natSig (dsz natSig natSig_may (by decide))
  obtain ⟨h2, c2⟩ := wSig_spec swSig (dsz swSig (by
    intro d hd
    simp only [swSig, List.mem_cons, List.not_mem_nil, or_false] at hd
    rcases hd with rfl | rfl
    · exact tNat_may
    · exact zT_may) (by decide))
  rw [natSig_R] at c1
  rw [swSig_R] at c2
  have c2 : (lim C).call 7 [.d (.slc [encD ⟨⟨#[122]⟩, tNat⟩, encD ⟨⟨#[110, 97, 116]⟩, zT⟩])] [] = some (.ret (.tup [dI 0, dI 2]), h2) := c2
  have zn := may_room tNat_may
  obtain ⟨h3, c3⟩ := wConf_spec [tNat] [tNat, tNat] (by decide) (by simpa using zn) (by decide)
  obtain ⟨h4, c4⟩ := wConf_spec [] [tNat] (by decide) (by simp) (by decide)
  rw [confB_nat] at c3
  have c3 : (lim C).call 14 [.d (.slc [enc tNat]), .d (.slc [enc tNat, enc tNat])] [] = some (.ret (dB true), h3) := c3
  have c4 : (lim C).call 14 [.d (.slc []), .d (.slc [enc tNat])] [] = some (.ret (dB false), h4) := c4
  have g0 : natSig[0]? = some ⟨⟨#[110, 97, 116]⟩, zT⟩ := rfl
  have g1 : natSig[1]? = some ⟨⟨#[122]⟩, tNat⟩ := rfl
  have d0 := encD_fold ⟨⟨#[110, 97, 116]⟩, zT⟩
  have d1 := encD_fold ⟨⟨#[122]⟩, tNat⟩
  simp only at d0 d1
  rw [ev_fn 4 Tryz.f4 _ _ _ rfl Tryz.func4 rfl Tryz.ntmps4 rfl]
  simp -implicitDefEqProofs (disch := decide +kernel) only [go_sem, ↓reduceIte, Nat.reduceSub, Nat.reduceAdd, Nat.reduceMul, Nat.reduceBEq, Nat.reduceLT, Nat.reduceLeDiff, Nat.reduceEqDiff, reduceCtorEq, Int.reduceToNat, Int.reduceLE, Int.reduceLT, Int.reduceBEq, Int.reduceBNe, mCall, nat_spec, c1, c2, c3, c4, g0, g1, d0, d1, e1, cells_enc, cells_encD, cel3, (enc_eq tNat).symm]
end Go.Proofs.YtbcoacljjhbonaaGreat
/- The laws of layer 11: WorldTells. -/
set_option linter.unusedSimpArgs false
set_option linter.unusedVariables false
set_option maxRecDepth 100000
namespace Go.Proofs.YtbcoacljjhbonaaGreat
open Go.Proofs
theorem WIn.none {K : Int} {sg : List Dc} {ms : List Md} {cx : List Tm} (h : WIn K ⟨sg, ms, cx⟩) : WIn K ⟨sg, [], []⟩ :=
  ⟨⟨by show 0 < room; decide, by simp, h.sz.sl, h.sz.sz, by show 0 < room; decide, by simp⟩, h.hk, h.top, by simp, h.sig, by simp⟩
set_option maxHeartbeats 8000000 in
theorem worldTells_holds (sg : List Dc) (wsg : ∀ t ∈ sg, Wf t.t) (hsg : dsum sg + 1 ≤ 1048576) (ms : List Md) (wms : ∀ t ∈ ms, WfM t) (hms : msum ms + 1 ≤ 1048576) (ar : List Tm) (war : ∀ t ∈ ar, Wf t) (har : (ar.map Tm.size).sum + 1 ≤ 1048576)
    (cx : List Tm) (wcx : ∀ t ∈ cx, Wf t) (hcx : (cx.map Tm.size).sum + 1 ≤ 1048576) (sc : List Tm) (wsc : ∀ t ∈ sc, Wf t) (hsc : (sc.map Tm.size).sum + 1 ≤ 1048576) :
    ∃ h, (lim C).call 3 [dDs sg, dMs ms, dL ar, dL cx, dL sc] [] = some (.ret (dB true), h) := by
  have hr : room = 1099511627776 := rfl
  have hA := awake11_spec
  have hw := wsz_of hsg hms hcx
  have hF := fewW_spec ⟨sg, ms, cx⟩ hw
  have hF : (lim C).call 5 [dDs sg, dMs ms, dL cx] [] = retB (fewW ⟨sg, ms, cx⟩) := hF
  obtain ⟨la, za⟩ := lists_room har
  obtain ⟨ls, zs⟩ := lists_room hsc
  have hp := lights_spec ar 500 80 la za
  have hq := lights_spec sc 500 80 ls zs
  refine ⟨[], ?_⟩
  rw [ev_fn 3 Tryz.f3 _ _ _ rfl Tryz.func3 rfl Tryz.ntmps3 rfl]
  simp -implicitDefEqProofs (disch := decide +kernel) only [go_sem, ↓reduceIte, Nat.reduceSub, Nat.reduceAdd, Nat.reduceMul, Nat.reduceBEq, Nat.reduceLT, Nat.reduceLeDiff, Nat.reduceEqDiff, reduceCtorEq, Int.reduceToNat, Int.reduceLE, Int.reduceLT, Int.reduceBEq, Int.reduceBNe, mCall, hA, hF, hp, hq]
  cases k1 : fewW ⟨sg, ms, cx⟩
  · simp -implicitDefEqProofs (disch := decide +kernel) only [go_sem, ↓reduceIte, Nat.reduceSub, Nat.reduceAdd, Nat.reduceMul, Nat.reduceBEq, Nat.reduceLT, Nat.reduceLeDiff, Nat.reduceEqDiff, reduceCtorEq, Int.reduceToNat, Int.reduceLE, Int.reduceLT, Int.reduceBEq, Int.reduceBNe, mCall, hA, hF, hp, hq, k1]
  · skip
    simp -implicitDefEqProofs (disch := decide +kernel) only [go_sem, ↓reduceIte, Nat.reduceSub, Nat.reduceAdd, Nat.reduceMul, Nat.reduceBEq, Nat.reduceLT, Nat.reduceLeDiff, Nat.reduceEqDiff, reduceCtorEq, Int.reduceToNat, Int.reduceLE, Int.reduceLT, Int.reduceBEq, Int.reduceBNe, mCall, hA, hF, hp, hq, k1]
    cases k2 : lightsB ar 500 80
    · simp -implicitDefEqProofs (disch := decide +kernel) only [go_sem, ↓reduceIte, Nat.reduceSub, Nat.reduceAdd, Nat.reduceMul, Nat.reduceBEq, Nat.reduceLT, Nat.reduceLeDiff, Nat.reduceEqDiff, reduceCtorEq, Int.reduceToNat, Int.reduceLE, Int.reduceLT, Int.reduceBEq, Int.reduceBNe, mCall, hA, hF, hp, hq, k2]
    · skip
      simp -implicitDefEqProofs (disch := decide +kernel) only [go_sem, ↓reduceIte, Nat.reduceSub, Nat.reduceAdd, Nat.reduceMul, Nat.reduceBEq, Nat.reduceLT, Nat.reduceLeDiff, Nat.reduceEqDiff, reduceCtorEq, Int.reduceToNat, Int.reduceLE, Int.reduceLT, Int.reduceBEq, Int.reduceBNe, mCall, hA, hF, hp, hq, k2]
      cases k3 : lightsB sc 500 80
      · simp -implicitDefEqProofs (disch := decide +kernel) only [go_sem, ↓reduceIte, Nat.reduceSub, Nat.reduceAdd, Nat.reduceMul, Nat.reduceBEq, Nat.reduceLT, Nat.reduceLeDiff, Nat.reduceEqDiff, reduceCtorEq, Int.reduceToNat, Int.reduceLE, Int.reduceLT, Int.reduceBEq, Int.reduceBNe, mCall, hA, hF, hp, hq, k3]
      · skip
        simp -implicitDefEqProofs (disch := decide +kernel) only [go_sem, ↓reduceIte, Nat.reduceSub, Nat.reduceAdd, Nat.reduceMul, Nat.reduceBEq, Nat.reduceLT, Nat.reduceLeDiff, Nat.reduceEqDiff, reduceCtorEq, Int.reduceToNat, Int.reduceLE, Int.reduceLT, Int.reduceBEq, Int.reduceBNe, mCall, hA, hF, hp, hq, k3]
        have hin := few_in hw k1
        have hin0 := hin.none
        have hal := (lights_parts k2).1
        have hsl := (lights_parts k3).1
        have hcl := (fewW_parts k1).2.2.1
        have hcl : cx.length ≤ 60 := hcl
        have hinA : WIn lowK ⟨sg, ms, ar⟩ := hin.cons (fun x hx => ⟨za x hx, light_vle ((lights_parts k2).2 x hx)⟩) la
        have hcz : ∀ x ∈ cx, x.size < room ∧ vleB lowK x = true := fun x hx => ⟨hw.cz x hx, hin.ctx x hx⟩
        have hsz : ∀ x ∈ sc, x.size < room ∧ vleB lowK x = true := fun x hx => ⟨zs x hx, light_vle ((lights_parts k3).2 x hx)⟩
        obtain ⟨h1, c1⟩ := wSig_spec sg hin0.sz
        have c2 := r11Sig_spec hin0
        obtain ⟨h3, c3⟩ := wCtx_spec hinA cx hw.cz (by show ar.length + _ < room; omega)
        have c3 : (lim C).call 10 [dDs sg, dMs ms, dL ar, dL cx] [] = some (.ret (dI (CtxWR (Wo.wd ⟨sg, ms, ar⟩) ar cx)), h3) := c3
        have c4 := r11Ctx_spec (cx := cx) hinA hcz (by omega)
        obtain ⟨h5, c5⟩ := wSchema_spec hin0 sc zs ls
        have c5 : (lim C).call 12 [dDs sg, dL sc] [] = some (.ret (dI (SchemaR (Wo.wd ⟨sg, [], []⟩) sc)), h5) := c5
        have c6 := r11Schema_spec hin0 hsz ls
        obtain ⟨h7, c7⟩ := wConf_spec sc cx ls zs hw.cl
        have c8 := r11Conf_spec sc cx ls zs hw.cl
        have c7 : (lim C).call 14 [dL sc, dL cx] [] = some (.ret (dB (ConfB sc cx)), h7) := c7
        generalize SigR sg = r at *
        generalize CtxWR (Wo.wd ⟨sg, ms, ar⟩) ar cx = v at *
        generalize SchemaR (Wo.wd ⟨sg, [], []⟩) sc = u at *
        generalize ConfB sc cx = b at *
        simp -implicitDefEqProofs (disch := decide +kernel) only [go_sem, ↓reduceIte, Nat.reduceSub, Nat.reduceAdd, Nat.reduceMul, Nat.reduceBEq, Nat.reduceLT, Nat.reduceLeDiff, Nat.reduceEqDiff, reduceCtorEq, Int.reduceToNat, Int.reduceLE, Int.reduceLT, Int.reduceBEq, Int.reduceBNe, mCall, c1, c2, c3, c4, c5, c6, c7, c8, beq_self_eq_true]
end Go.Proofs.YtbcoacljjhbonaaGreat
