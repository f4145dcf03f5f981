/- The reference of layer 10: May, a spine. -/
import Derived.Test.YtmemmdfjlhamfaaB2
set_option linter.unusedSimpArgs false
set_option linter.unusedVariables false
set_option maxRecDepth 100000
namespace Go.Proofs.Ytmemmdfjlhamfaa
open Go.Proofs
def ra_S (l : List Tm) (i : Nat) : St := mk 18 [(0, dL l), (3, dI i)] [] [] []
theorem rall_spec (l : List Tm) (hl : l.length < room) (hz : ∀ x ∈ l, x.size < room) : (lim C).call 103 [dL l] [] = retB (maysB l) := by
  have hr : room = 1099511627776 := rfl
  have hloop : (lim C).code 103 (.loop (cf (cf (cs (cf (cs (bodyOf Try.f103))))))) (ra_S l 0) = some (if allB l.length (fun k => mayB (l.getD k default)) then (.exit 0, mk 18 [(0, dL l), (3, dI l.length), (8, dB false)] [] [] []) else (.ret, mk 18 [(2, dB false)] [] [] [])) := by
    refine loop_all (ra_S l) l.length _ (fun k hk hp => ?_) (fun k hk hp => ?_) ?_ (by simp) (by simp)
    · have hc := may_spec (l.getD k default) (hz _ (getD_mem hk))
      rw [hp] at hc
      simp -implicitDefEqProofs (disch := decide +kernel) only [cf, cs, bodyOf, Try.f103, Option.getD_some, go_sem, ↓reduceIte, Nat.reduceSub, Nat.reduceAdd, Nat.reduceMul, Nat.reduceBEq, Nat.reduceLT, Nat.reduceLeDiff, Nat.reduceEqDiff, reduceCtorEq, Int.reduceToNat, Int.reduceLE, Int.reduceLT, Int.reduceBEq, Int.reduceBNe, mCall, ra_S, lt_true hk, getD_get hk, hc, wrap_succ (n := k) (by omega)]
    · have hc := may_spec (l.getD k default) (hz _ (getD_mem hk))
      rw [hp] at hc
      simp -implicitDefEqProofs (disch := decide +kernel) only [cf, cs, bodyOf, Try.f103, Option.getD_some, go_sem, ↓reduceIte, Nat.reduceSub, Nat.reduceAdd, Nat.reduceMul, Nat.reduceBEq, Nat.reduceLT, Nat.reduceLeDiff, Nat.reduceEqDiff, reduceCtorEq, Int.reduceToNat, Int.reduceLE, Int.reduceLT, Int.reduceBEq, Int.reduceBNe, mCall, ra_S, lt_true hk, getD_get hk, hc]
    · simp -implicitDefEqProofs (disch := decide +kernel) only [cf, cs, bodyOf, Try.f103, Option.getD_some, go_sem, ↓reduceIte, Nat.reduceSub, Nat.reduceAdd, Nat.reduceMul, Nat.reduceBEq, Nat.reduceLT, Nat.reduceLeDiff, Nat.reduceEqDiff, reduceCtorEq, Int.reduceToNat, Int.reduceLE, Int.reduceLT, Int.reduceBEq, Int.reduceBNe, mCall, ra_S, lt_false (Nat.le_refl l.length)]
  have hm : maysB l = allB l.length (fun k => mayB (l.getD k default)) := rfl
  rw [ev_fn 103 Try.f103 _ _ _ rfl Try.func103 rfl Try.ntmps103 rfl]
  simp -implicitDefEqProofs (disch := decide +kernel) only [go_sem, ↓reduceIte, Nat.reduceSub, Nat.reduceAdd, Nat.reduceMul, Nat.reduceBEq, Nat.reduceLT, Nat.reduceLeDiff, Nat.reduceEqDiff, reduceCtorEq, Int.reduceToNat, Int.reduceLE, Int.reduceLT, Int.reduceBEq, Int.reduceBNe, mCall]
  rw [loop_at hloop ?hb ?hs]
  case hb => rfl
  case hs => rfl
  rw [hm]
  cases allB l.length (fun k => mayB (l.getD k default)) <;> simp -implicitDefEqProofs (disch := decide +kernel) only [go_sem, ↓reduceIte, Nat.reduceSub, Nat.reduceAdd, Nat.reduceMul, Nat.reduceBEq, Nat.reduceLT, Nat.reduceLeDiff, Nat.reduceEqDiff, reduceCtorEq, Int.reduceToNat, Int.reduceLE, Int.reduceLT, Int.reduceBEq, Int.reduceBNe, mCall]
def rm_S1 (w : Wo) (l : List Tm) (i : Nat) : St := mk 65 [(0, dDs w.sig), (1, dMs w.metas), (2, dL w.ctx), (3, dL l), (9, dI i)] [] [] []
def rm_S2 (w : Wo) (l : List Tm) (i : Nat) : St := mk 65 [(1, dMs w.metas), (2, dL w.ctx), (3, dL l), (11, dI i)] [] [] []
def rm_R : St := mk 65 [(8, dB false)] [] [] []
theorem rMay_spec (w : Wo) (l : List Tm) (hw : WSz w) (hl : l.length < room) (hz : ∀ x ∈ l, x.size < room) : (lim C).call 71 [dDs w.sig, dMs w.metas, dL w.ctx, dL l] [] = retB (mayW w.wd w.ctx l) := by
  have hr : room = 1099511627776 := rfl
  have s1 := hw.sl
  have m1 := hw.ml
  have hloop1 : (lim C).code 71 (.loop (cf (cf (cs (cf (cs (cs (bodyOf Try.f71)))))))) (rm_S1 w l 0) = some (if allB w.sig.length (fun i => mayB (Dcs.at w.sig i).t) then (.exit 0, mk 65 [(0, dDs w.sig), (1, dMs w.metas), (2, dL w.ctx), (3, dL l), (9, dI w.sig.length), (22, dB false)] [] [] []) else (.ret, rm_R)) := by
    refine loop_all (rm_S1 w l) w.sig.length _ (fun k hk hp => ?_) (fun k hk hp => ?_) ?_ (by simp) (by simp)
    · have hc := may_spec (Dcs.at w.sig k).t (hw.sz _ (dat_mem hk))
      rw [hp] at hc
      simp -implicitDefEqProofs (disch := decide +kernel) only [cf, cs, bodyOf, Try.f71, Option.getD_some, go_sem, ↓reduceIte, Nat.reduceSub, Nat.reduceAdd, Nat.reduceMul, Nat.reduceBEq, Nat.reduceLT, Nat.reduceLeDiff, Nat.reduceEqDiff, reduceCtorEq, Int.reduceToNat, Int.reduceLE, Int.reduceLT, Int.reduceBEq, Int.reduceBNe, mCall, rm_S1, lt_true hk, dat_get hk, hc, cells_encD, (enc_eq (Dcs.at w.sig k).t).symm, wrap_succ (n := k) (by omega)]
    · have hc := may_spec (Dcs.at w.sig k).t (hw.sz _ (dat_mem hk))
      rw [hp] at hc
      simp -implicitDefEqProofs (disch := decide +kernel) only [cf, cs, bodyOf, Try.f71, Option.getD_some, go_sem, ↓reduceIte, Nat.reduceSub, Nat.reduceAdd, Nat.reduceMul, Nat.reduceBEq, Nat.reduceLT, Nat.reduceLeDiff, Nat.reduceEqDiff, reduceCtorEq, Int.reduceToNat, Int.reduceLE, Int.reduceLT, Int.reduceBEq, Int.reduceBNe, mCall, rm_S1, rm_R, lt_true hk, dat_get hk, hc, cells_encD, (enc_eq (Dcs.at w.sig k).t).symm]
    · simp -implicitDefEqProofs (disch := decide +kernel) only [cf, cs, bodyOf, Try.f71, Option.getD_some, go_sem, ↓reduceIte, Nat.reduceSub, Nat.reduceAdd, Nat.reduceMul, Nat.reduceBEq, Nat.reduceLT, Nat.reduceLeDiff, Nat.reduceEqDiff, reduceCtorEq, Int.reduceToNat, Int.reduceLE, Int.reduceLT, Int.reduceBEq, Int.reduceBNe, mCall, rm_S1, lt_false (Nat.le_refl w.sig.length)]
  have hloop2 : (lim C).code 71 (.loop (cf (cf (cs (cf (cs (cs (cs (bodyOf Try.f71))))))))) (rm_S2 w l 0) = some (if allB w.metas.length (fun i => mayB (w.metas.getD i default).t && maysB (w.metas.getD i default).ctx) then (.exit 2, mk 65 [(1, dMs w.metas), (2, dL w.ctx), (3, dL l), (11, dI w.metas.length), (36, dB false)] [] [] []) else (.ret, rm_R)) := by
    refine loop_all (rm_S2 w l) w.metas.length _ (fun k hk hp => ?_) (fun k hk hp => ?_) ?_ (by simp) (by simp)
    · obtain ⟨z1, z2, z3⟩ := hw.mz _ (mget_mem hk)
      have hc := may_spec (w.metas.getD k default).t z1
      have hd := rall_spec (w.metas.getD k default).ctx z2 z3
      simp only [Bool.and_eq_true] at hp
      rw [hp.1] at hc
      rw [hp.2] at hd
      simp -implicitDefEqProofs (disch := decide +kernel) only [cf, cs, bodyOf, Try.f71, Option.getD_some, go_sem, ↓reduceIte, Nat.reduceSub, Nat.reduceAdd, Nat.reduceMul, Nat.reduceBEq, Nat.reduceLT, Nat.reduceLeDiff, Nat.reduceEqDiff, reduceCtorEq, Int.reduceToNat, Int.reduceLE, Int.reduceLT, Int.reduceBEq, Int.reduceBNe, mCall, rm_S2, lt_true hk, mget_get hk, hc, hd, cells_encM, (enc_eq (w.metas.getD k default).t).symm, wrap_succ (n := k) (by omega)]
    · obtain ⟨z1, z2, z3⟩ := hw.mz _ (mget_mem hk)
      have hc := may_spec (w.metas.getD k default).t z1
      have hd := rall_spec (w.metas.getD k default).ctx z2 z3
      cases h2 : maysB (w.metas.getD k default).ctx
      · rw [h2] at hd
        simp -implicitDefEqProofs (disch := decide +kernel) only [cf, cs, bodyOf, Try.f71, Option.getD_some, go_sem, ↓reduceIte, Nat.reduceSub, Nat.reduceAdd, Nat.reduceMul, Nat.reduceBEq, Nat.reduceLT, Nat.reduceLeDiff, Nat.reduceEqDiff, reduceCtorEq, Int.reduceToNat, Int.reduceLE, Int.reduceLT, Int.reduceBEq, Int.reduceBNe, mCall, rm_S2, rm_R, lt_true hk, mget_get hk, hc, hd, cells_encM, (enc_eq (w.metas.getD k default).t).symm]
      · rw [h2, Bool.and_true] at hp
        rw [hp] at hc
        rw [h2] at hd
        simp -implicitDefEqProofs (disch := decide +kernel) only [cf, cs, bodyOf, Try.f71, Option.getD_some, go_sem, ↓reduceIte, Nat.reduceSub, Nat.reduceAdd, Nat.reduceMul, Nat.reduceBEq, Nat.reduceLT, Nat.reduceLeDiff, Nat.reduceEqDiff, reduceCtorEq, Int.reduceToNat, Int.reduceLE, Int.reduceLT, Int.reduceBEq, Int.reduceBNe, mCall, rm_S2, rm_R, lt_true hk, mget_get hk, hc, hd, cells_encM, (enc_eq (w.metas.getD k default).t).symm]
    · simp -implicitDefEqProofs (disch := decide +kernel) only [cf, cs, bodyOf, Try.f71, Option.getD_some, go_sem, ↓reduceIte, Nat.reduceSub, Nat.reduceAdd, Nat.reduceMul, Nat.reduceBEq, Nat.reduceLT, Nat.reduceLeDiff, Nat.reduceEqDiff, reduceCtorEq, Int.reduceToNat, Int.reduceLE, Int.reduceLT, Int.reduceBEq, Int.reduceBNe, mCall, rm_S2, lt_false (Nat.le_refl w.metas.length)]
  have hc1 := rall_spec w.ctx hw.cl hw.cz
  have hc2 := rall_spec l hl hz
  rw [mayW_eq]
  rw [ev_fn 71 Try.f71 _ _ _ rfl Try.func71 rfl Try.ntmps71 rfl]
  cases k1 : decide ((w.ctx.length : Int) > 1000)
  · cases k4 : allB w.sig.length (fun i => mayB (Dcs.at w.sig i).t)
    · rw [k4] at hloop1
      simp -implicitDefEqProofs (disch := decide +kernel) only [go_sem, ↓reduceIte, Nat.reduceSub, Nat.reduceAdd, Nat.reduceMul, Nat.reduceBEq, Nat.reduceLT, Nat.reduceLeDiff, Nat.reduceEqDiff, reduceCtorEq, Int.reduceToNat, Int.reduceLE, Int.reduceLT, Int.reduceBEq, Int.reduceBNe, mCall, k1]
      rw [loop_at hloop1 ?hb ?hs]
      case hb => rfl
      case hs => rfl
      simp -implicitDefEqProofs (disch := decide +kernel) only [go_sem, ↓reduceIte, Nat.reduceSub, Nat.reduceAdd, Nat.reduceMul, Nat.reduceBEq, Nat.reduceLT, Nat.reduceLeDiff, Nat.reduceEqDiff, reduceCtorEq, Int.reduceToNat, Int.reduceLE, Int.reduceLT, Int.reduceBEq, Int.reduceBNe, mCall, rm_R]
    · rw [k4] at hloop1
      simp -implicitDefEqProofs (disch := decide +kernel) only [go_sem, ↓reduceIte, Nat.reduceSub, Nat.reduceAdd, Nat.reduceMul, Nat.reduceBEq, Nat.reduceLT, Nat.reduceLeDiff, Nat.reduceEqDiff, reduceCtorEq, Int.reduceToNat, Int.reduceLE, Int.reduceLT, Int.reduceBEq, Int.reduceBNe, mCall, k1]
      rw [loop_at hloop1 ?hb ?hs]
      case hb => rfl
      case hs => rfl
      cases k5 : allB w.metas.length (fun i => mayB (w.metas.getD i default).t && maysB (w.metas.getD i default).ctx)
      · rw [k5] at hloop2
        simp -implicitDefEqProofs (disch := decide +kernel) only [go_sem, ↓reduceIte, Nat.reduceSub, Nat.reduceAdd, Nat.reduceMul, Nat.reduceBEq, Nat.reduceLT, Nat.reduceLeDiff, Nat.reduceEqDiff, reduceCtorEq, Int.reduceToNat, Int.reduceLE, Int.reduceLT, Int.reduceBEq, Int.reduceBNe, mCall]
        rw [loop_at hloop2 ?hb ?hs]
        case hb => rfl
        case hs => rfl
        simp -implicitDefEqProofs (disch := decide +kernel) only [go_sem, ↓reduceIte, Nat.reduceSub, Nat.reduceAdd, Nat.reduceMul, Nat.reduceBEq, Nat.reduceLT, Nat.reduceLeDiff, Nat.reduceEqDiff, reduceCtorEq, Int.reduceToNat, Int.reduceLE, Int.reduceLT, Int.reduceBEq, Int.reduceBNe, mCall, rm_R]
      · rw [k5] at hloop2
        simp -implicitDefEqProofs (disch := decide +kernel) only [go_sem, ↓reduceIte, Nat.reduceSub, Nat.reduceAdd, Nat.reduceMul, Nat.reduceBEq, Nat.reduceLT, Nat.reduceLeDiff, Nat.reduceEqDiff, reduceCtorEq, Int.reduceToNat, Int.reduceLE, Int.reduceLT, Int.reduceBEq, Int.reduceBNe, mCall]
        rw [loop_at hloop2 ?hb ?hs]
        case hb => rfl
        case hs => rfl
        cases k2 : maysB l <;> cases k3 : maysB w.ctx <;> (rw [k2] at hc2; rw [k3] at hc1; simp -implicitDefEqProofs (disch := decide +kernel) only [go_sem, ↓reduceIte, Nat.reduceSub, Nat.reduceAdd, Nat.reduceMul, Nat.reduceBEq, Nat.reduceLT, Nat.reduceLeDiff, Nat.reduceEqDiff, reduceCtorEq, Int.reduceToNat, Int.reduceLE, Int.reduceLT, Int.reduceBEq, Int.reduceBNe, mCall, hc1, hc2])
  · simp -implicitDefEqProofs (disch := decide +kernel) only [go_sem, ↓reduceIte, Nat.reduceSub, Nat.reduceAdd, Nat.reduceMul, Nat.reduceBEq, Nat.reduceLT, Nat.reduceLeDiff, Nat.reduceEqDiff, reduceCtorEq, Int.reduceToNat, Int.reduceLE, Int.reduceLT, Int.reduceBEq, Int.reduceBNe, mCall, k1]
theorem rmore_spec (l : List Tm) (a : Tm) (hl : l.length < room) : (lim C).call 104 [dL l, dT a] [] = some (.ret (dL (l ++ [a])), []) := by
  have hr : room = 1099511627776 := rfl
  have ha1 := fun locs heap => app_first (encs l) 3 locs heap (by rw [encs_length]; omega) (encs_all _)
  have ha2 := fun locs heap => app_more (encs l) [enc a] 3 (by simp) locs heap (by rw [encs_length]; simp; omega) (encs_all _) (by simp [enc_width])
  have hz : encs l ++ [enc a] = encs (l ++ [a]) := by rw [encs_append]; rfl
  simp only [encs_length, hz] at ha1 ha2
  rw [ev_fn 104 Try.f104 _ _ _ rfl Try.func104 rfl Try.ntmps104 rfl]
  simp -implicitDefEqProofs (disch := decide +kernel) only [go_sem, ↓reduceIte, Nat.reduceSub, Nat.reduceAdd, Nat.reduceMul, Nat.reduceBEq, Nat.reduceLT, Nat.reduceLeDiff, Nat.reduceEqDiff, reduceCtorEq, Int.reduceToNat, Int.reduceLE, Int.reduceLT, Int.reduceBEq, Int.reduceBNe, mCall, ha1, ha2, cells_enc, cel3, (enc_eq a).symm]
end Go.Proofs.Ytmemmdfjlhamfaa
/- The reference of layer 10: what a node comes to. -/
set_option linter.unusedSimpArgs false
set_option linter.unusedVariables false
set_option maxRecDepth 100000
namespace Go.Proofs.Ytmemmdfjlhamfaa
open Go.Proofs
/-- What is shared: declarations, metas. -/
def rfH (w : Wo) : List HO := [.var 0 [dDs w.sig, dMs w.metas]]
def RTells (w : Wo) (m : Tm) (K : Int) : Prop := ∀ i, i < m.args.length → ∀ x : Tm, mayB x = true → vleB (K + 2000000 * ((i : Int) + 1)) x = true →
  (lim C).call 72 [.href 0 0, dL w.ctx, dT (m.arg i), dT x] (rfH w) = some (.ret (dI (argW w.wd m i x w.ctx)), rfH w)
structure RNodeOk (w : Wo) (m : Tm) (K : Int) : Prop where
  tells : RTells w m K
  may : mayB m = true
  vle : vleB K m = true
  wok : WOk K w m.size
  top : K + 4000000 * (m.size : Int) ≤ topV
theorem RNodeOk.h0 {w : Wo} {m : Tm} {K : Int} (h : RNodeOk w m K) : 0 ≤ K := h.wok.h0
theorem RNodeOk.top2 {w : Wo} {m : Tm} {K : Int} (h : RNodeOk w m K) : K + 2000000 * ((m.args.length : Int) + 2) ≤ topV := by
  have := h.top
  have := len_size m
  omega
def rsc_S (w : Wo) (t : Tm) (l : List Tm) (i : Nat) : St := mk 59 [(0, .href 0 0), (1, dL w.ctx), (3, dL l), (6, .lref 6 0), (8, .lref 8 0), (10, dI i)] [(6, cel3 t), (8, zc3)] (rfH w) []
def rsc_X (w : Wo) (t : Tm) (l : List Tm) : St := mk 59 [(0, .href 0 0), (1, dL w.ctx), (3, dL l), (6, .lref 6 0), (8, .lref 8 0), (10, dI l.length), (17, dB false)] [(6, cel3 t), (8, zc3)] (rfH w) []
def rsc_R (w : Wo) (e : Int) : St := mk 59 [(8, .lref 8 0), (9, dI e)] [(8, zc3)] (rfH w) []
theorem rsc_step {w : Wo} {m t u : Tm} {i : Nat} {h' : List HO} (hi : i < m.args.length) (hl : m.args.length < room) (k1 : (t.kind != 1) = false) (ht : t.args.length = 2)
    (hrec : (lim C).call 72 [.href 0 0, dL w.ctx, dT (m.arg i), dT (t.arg 0)] (rfH w) = some (.ret (dI 0), rfH w))
    (hap : (lim C).call 86 [dT (t.arg 1), dS ⟨[m.arg i], 0⟩] [] = some (.ret (.tup [dT u, dI 0]), h')) :
    (lim C).code 110 (cf (.loop (cf (cf (cs (cf (cs (bodyOf Try.f110)))))))) (rsc_S w t m.args i) = some (.nor, rsc_S w u m.args (i + 1)) := by
  have hr : room = 1099511627776 := rfl
  have e0 : t.args[0]? = some (t.arg 0) := arg_get (by omega)
  have e1 : t.args[1]? = some (t.arg 1) := arg_get (by omega)
  have hsb : Dv.agg [.slc [enc (m.arg i)], .int .i64 0] = encS ⟨[m.arg i], 0⟩ := rfl
  have h00 : ((0 : Int) != 0) = false := rfl
  simp only [rfH] at hrec
  simp -implicitDefEqProofs (disch := decide +kernel) only [cf, cs, bodyOf, Try.f110, Option.getD_some, go_sem, ↓reduceIte, Nat.reduceSub, Nat.reduceAdd, Nat.reduceMul, Nat.reduceBEq, Nat.reduceLT, Nat.reduceLeDiff, Nat.reduceEqDiff, reduceCtorEq, Int.reduceToNat, Int.reduceLE, Int.reduceLT, Int.reduceBEq, Int.reduceBNe, mCall, rsc_S, rfH, cel3, zc3, cells_enc, lt_true hi, arg_get hi, k1, e0, e1, hsb, hrec, hap, h00, (enc_eq (m.arg i)).symm, (enc_eq u).symm, wrap_succ (n := i) (by omega)]
theorem rsc_bad1 {w : Wo} {m t : Tm} {i : Nat} (hi : i < m.args.length) (hl : m.args.length < room) (k1 : (t.kind != 1) = true) :
    (lim C).code 110 (cf (.loop (cf (cf (cs (cf (cs (bodyOf Try.f110)))))))) (rsc_S w t m.args i) = some (.ret, rsc_R w 3) := by
  have hz := zT_enc
  simp -implicitDefEqProofs (disch := decide +kernel) only [cf, cs, bodyOf, Try.f110, Option.getD_some, go_sem, ↓reduceIte, Nat.reduceSub, Nat.reduceAdd, Nat.reduceMul, Nat.reduceBEq, Nat.reduceLT, Nat.reduceLeDiff, Nat.reduceEqDiff, reduceCtorEq, Int.reduceToNat, Int.reduceLE, Int.reduceLT, Int.reduceBEq, Int.reduceBNe, mCall, rsc_S, rsc_R, rfH, cel3, zc3, cells_enc, lt_true hi, arg_get hi, k1, hz, (enc_eq (m.arg i)).symm]
theorem rsc_bad2 {w : Wo} {m t : Tm} {i : Nat} {e : Int} (hi : i < m.args.length) (hl : m.args.length < room) (k1 : (t.kind != 1) = false) (ht : t.args.length = 2) (he : (e != 0) = true)
    (hrec : (lim C).call 72 [.href 0 0, dL w.ctx, dT (m.arg i), dT (t.arg 0)] (rfH w) = some (.ret (dI e), rfH w)) :
    (lim C).code 110 (cf (.loop (cf (cf (cs (cf (cs (bodyOf Try.f110)))))))) (rsc_S w t m.args i) = some (.ret, rsc_R w e) := by
  have hz := zT_enc
  have e0 : t.args[0]? = some (t.arg 0) := arg_get (by omega)
  simp only [rfH] at hrec
  simp -implicitDefEqProofs (disch := decide +kernel) only [cf, cs, bodyOf, Try.f110, Option.getD_some, go_sem, ↓reduceIte, Nat.reduceSub, Nat.reduceAdd, Nat.reduceMul, Nat.reduceBEq, Nat.reduceLT, Nat.reduceLeDiff, Nat.reduceEqDiff, reduceCtorEq, Int.reduceToNat, Int.reduceLE, Int.reduceLT, Int.reduceBEq, Int.reduceBNe, mCall, rsc_S, rsc_R, rfH, cel3, zc3, cells_enc, lt_true hi, arg_get hi, k1, e0, hrec, he, hz, (enc_eq (m.arg i)).symm]
theorem rsc_bad3 {w : Wo} {m t u : Tm} {i : Nat} {e : Int} {h' : List HO} (hi : i < m.args.length) (hl : m.args.length < room) (k1 : (t.kind != 1) = false) (ht : t.args.length = 2) (he : (e != 0) = true)
    (hrec : (lim C).call 72 [.href 0 0, dL w.ctx, dT (m.arg i), dT (t.arg 0)] (rfH w) = some (.ret (dI 0), rfH w))
    (hap : (lim C).call 86 [dT (t.arg 1), dS ⟨[m.arg i], 0⟩] [] = some (.ret (.tup [dT u, dI e]), h')) :
    (lim C).code 110 (cf (.loop (cf (cf (cs (cf (cs (bodyOf Try.f110)))))))) (rsc_S w t m.args i) = some (.ret, rsc_R w e) := by
  have hz := zT_enc
  have e0 : t.args[0]? = some (t.arg 0) := arg_get (by omega)
  have e1 : t.args[1]? = some (t.arg 1) := arg_get (by omega)
  have hsb : Dv.agg [.slc [enc (m.arg i)], .int .i64 0] = encS ⟨[m.arg i], 0⟩ := rfl
  have h00 : ((0 : Int) != 0) = false := rfl
  simp only [rfH] at hrec
  simp -implicitDefEqProofs (disch := decide +kernel) only [cf, cs, bodyOf, Try.f110, Option.getD_some, go_sem, ↓reduceIte, Nat.reduceSub, Nat.reduceAdd, Nat.reduceMul, Nat.reduceBEq, Nat.reduceLT, Nat.reduceLeDiff, Nat.reduceEqDiff, reduceCtorEq, Int.reduceToNat, Int.reduceLE, Int.reduceLT, Int.reduceBEq, Int.reduceBNe, mCall, rsc_S, rsc_R, rfH, cel3, zc3, cells_enc, lt_true hi, arg_get hi, k1, e0, e1, hsb, hrec, hap, he, h00, hz, (enc_eq (m.arg i)).symm, (enc_eq u).symm]
def rsc_out (w : Wo) (l : List Tm) (r : Tm × Int) : Ex × St := if r.2 = 0 then (.exit 0, rsc_X w r.1 l) else (.ret, rsc_R w r.2)
theorem rsc_err (w : Wo) (l : List Tm) {e : Int} (h : e ≠ 0) : rsc_out w l (zT, e) = (.ret, rsc_R w e) := if_neg h
theorem rsc_loop {w : Wo} {m : Tm} {K : Int} (hn : RNodeOk w m K) : ∀ (k i : Nat) (t : Tm), i + k = m.args.length → mayB t = true → vleB (K + 2000000 * ((i : Int) + 1)) t = true →
    (lim C).code 110 (.loop (cf (cf (cs (cf (cs (bodyOf Try.f110))))))) (rsc_S w t m.args i) = some (rsc_out w m.args (spW (argF w m) m.arg k i t))
  | 0, i, t, hi, _, _ => by
    obtain rfl : i = m.args.length := by omega
    simp only [spW, rsc_out, if_true]
    refine loop_out' ?_ (by simp)
    simp -implicitDefEqProofs (disch := decide +kernel) only [cf, cs, bodyOf, Try.f110, Option.getD_some, go_sem, ↓reduceIte, Nat.reduceSub, Nat.reduceAdd, Nat.reduceMul, Nat.reduceBEq, Nat.reduceLT, Nat.reduceLeDiff, Nat.reduceEqDiff, reduceCtorEq, Int.reduceToNat, Int.reduceLE, Int.reduceLT, Int.reduceBEq, Int.reduceBNe, mCall, rsc_S, rsc_X, lt_false (Nat.le_refl m.args.length)]
  | k + 1, i, t, hi, ht, hvt => by
    have hr : room = 1099511627776 := rfl
    have hm := hn.may
    have hv := hn.vle
    have h0 := hn.h0
    have hK := hn.top2
    have hlt : i < m.args.length := by omega
    have hml : m.args.length < room := by have := len_size m; have := may_room hm; omega
    simp only [spW]
    cases k1 : (t.kind != 1)
    · have hk : t.kind = 1 := by simpa using k1
      have hl2 := pi_len (may_parts ht).1 hk
      rw [if_neg (by simpa using hk)]
      have m0 := may_argm (arg_mem (t := t) (i := 0) (by omega)) ht
      have m1 := may_argm (arg_mem (t := t) (i := 1) (by omega)) ht
      have v0 := vle_args hvt 0 (by omega)
      have v1 := vle_args hvt 1 (by omega)
      have hrec := hn.tells i hlt (t.arg 0) m0 v0
      by_cases he : argF w m i (t.arg 0) = 0
      · rw [if_neg (by simpa using he)]
        have he' : argW w.wd m i (t.arg 0) w.ctx = 0 := he
        rw [he'] at hrec
        have ma := may_argm (arg_mem hlt) hm
        have va := vle_args hv i hlt
        obtain ⟨h', hap⟩ := rapply_spec (t.arg 1) ⟨[m.arg i], 0⟩ (may_room m1) (by simpa using may_room ma) (by simp; omega) (vle_mono (by omega) v1) (by simpa using vle_mono (by omega) va)
        have hvr := applyR_vle (K := K + 2000000 * ((i : Int) + 1)) (by omega) v1 (s := ⟨[m.arg i], 0⟩) (by simpa using vle_mono (by omega) va)
        have hmr := applyR_may (t.arg 1) ⟨[m.arg i], 0⟩
        generalize applyR (t.arg 1) ⟨[m.arg i], 0⟩ = r at hap hvr hmr ⊢
        obtain ⟨u, e⟩ := r
        by_cases he2 : e = 0
        · subst he2
          rw [if_neg (by simp)]
          exact (loop_nor' (rsc_step hlt hml k1 hl2 hrec hap)).trans (rsc_loop hn k (i + 1) u (by omega) hmr (by
            have : K + 2000000 * ((i : Int) + 1) + 2000000 = K + 2000000 * (((i + 1 : Nat) : Int) + 1) := by omega
            rw [← this]; exact hvr))
        · rw [if_pos (by simpa using he2)]
          rw [rsc_err w m.args (by simpa using he2)]
          exact loop_out' (rsc_bad3 hlt hml k1 hl2 (by simpa using he2) hrec hap) (by simp)
      · rw [if_pos (by simpa using he)]
        have he' : ¬ argW w.wd m i (t.arg 0) w.ctx = 0 := he
        rw [rsc_err w m.args (by simpa using he)]
        exact loop_out' (rsc_bad2 hlt hml k1 hl2 (by simpa using he') hrec) (by simp)
    · rw [if_pos (by simpa using k1)]
      rw [rsc_err w m.args (by decide)]
      exact loop_out' (rsc_bad1 hlt hml k1) (by simp)
theorem rspine_spec {w : Wo} {m : Tm} {K : Int} (hn : RNodeOk w m K) {t : Tm} (ht : mayB t = true) (hvt : vleB (K + 2000000) t = true) :
    (lim C).call 110 [.href 0 0, dL w.ctx, dT t, dL m.args] (rfH w) = some (.ret (.tup [dT (spW (argF w m) m.arg m.args.length 0 t).1, dI (spW (argF w m) m.arg m.args.length 0 t).2]), rfH w) := by
  have hloop := rsc_loop hn m.args.length 0 t (by omega) ht (by simpa using hvt)
  generalize hr : spW (argF w m) m.arg m.args.length 0 t = r at hloop ⊢
  obtain ⟨u, e⟩ := r
  simp only [rfH]
  rw [ev_fn 110 Try.f110 _ _ _ rfl Try.func110 rfl Try.ntmps110 rfl]
  simp -implicitDefEqProofs (disch := decide +kernel) only [go_sem, ↓reduceIte, Nat.reduceSub, Nat.reduceAdd, Nat.reduceMul, Nat.reduceBEq, Nat.reduceLT, Nat.reduceLeDiff, Nat.reduceEqDiff, reduceCtorEq, Int.reduceToNat, Int.reduceLE, Int.reduceLT, Int.reduceBEq, Int.reduceBNe, mCall, cells_enc, cel3]
  rw [loop_at hloop ?hb ?hs]
  case hb => rfl
  case hs => rfl
  by_cases he : e = 0
  · subst he
    simp only [rsc_out, if_true]
    simp -implicitDefEqProofs (disch := decide +kernel) only [go_sem, ↓reduceIte, Nat.reduceSub, Nat.reduceAdd, Nat.reduceMul, Nat.reduceBEq, Nat.reduceLT, Nat.reduceLeDiff, Nat.reduceEqDiff, reduceCtorEq, Int.reduceToNat, Int.reduceLE, Int.reduceLT, Int.reduceBEq, Int.reduceBNe, mCall, rsc_X, rfH, cel3, zc3, cells_enc, (enc_eq u).symm]
  · have hz : u = zT := by
      have := spW_err (T := argF w m) (arg := m.arg) m.args.length 0 t (by rw [hr]; exact he)
      rw [hr] at this
      exact this
    subst hz
    simp only [rsc_out, if_neg he]
    simp -implicitDefEqProofs (disch := decide +kernel) only [go_sem, ↓reduceIte, Nat.reduceSub, Nat.reduceAdd, Nat.reduceMul, Nat.reduceBEq, Nat.reduceLT, Nat.reduceLeDiff, Nat.reduceEqDiff, reduceCtorEq, Int.reduceToNat, Int.reduceLE, Int.reduceLT, Int.reduceBEq, Int.reduceBNe, mCall, rsc_R, rfH, cel3, zc3, cells_enc, zT_enc]
def rmt_S (w : Wo) (m : Tm) (D : Md) (i : Nat) : St := mk 93 [(0, .href 0 0), (1, dL w.ctx), (5, .lref 5 0), (6, .lref 6 0), (8, .lref 8 0), (9, dI i)] [(5, cel3 m), (6, zc3), (8, cel5 D)] (rfH w) []
def rmt_X (w : Wo) (m : Tm) (D : Md) : St := mk 93 [(0, .href 0 0), (1, dL w.ctx), (5, .lref 5 0), (6, .lref 6 0), (8, .lref 8 0), (9, dI m.args.length), (44, dB false)] [(5, cel3 m), (6, zc3), (8, cel5 D)] (rfH w) []
def rmt_R (w : Wo) (e : Int) : St := mk 93 [(6, .lref 6 0), (7, dI e)] [(6, zc3)] (rfH w) []
theorem rmt_step {w : Wo} {m u : Tm} {D : Md} {i : Nat} {h' : List HO} (hi : i < D.ctx.length) (him : i < m.args.length) (hl : D.ctx.length < room) (hlm : m.args.length < room) (hlc : w.ctx.length < room)
    (hap : (lim C).call 86 [dT (D.ctx.getD i default), dS ⟨m.args.take i, w.ctx.length⟩] [] = some (.ret (.tup [dT u, dI 0]), h'))
    (hrec : (lim C).call 72 [.href 0 0, dL w.ctx, dT (m.arg i), dT u] (rfH w) = some (.ret (dI 0), rfH w)) :
    (lim C).code 122 (cf (.loop (cf (cf (cs (cf (cs (cs (cs (cs (bodyOf Try.f122))))))))))) (rmt_S w m D i) = some (.nor, rmt_S w m D (i + 1)) := by
  have hr : room = 1099511627776 := rfl
  have hsb : Dv.agg [.slc ((encs m.args).take i), .int .i64 w.ctx.length] = encS ⟨m.args.take i, w.ctx.length⟩ := by rw [← encs_take]; rfl
  have h00 : ((0 : Int) != 0) = false := rfl
  have hle : i ≤ m.args.length := by omega
  simp only [rfH] at hrec
  simp -implicitDefEqProofs (disch := decide +kernel) only [cf, cs, bodyOf, Try.f122, Option.getD_some, go_sem, ↓reduceIte, Nat.reduceSub, Nat.reduceAdd, Nat.reduceMul, Nat.reduceBEq, Nat.reduceLT, Nat.reduceLeDiff, Nat.reduceEqDiff, reduceCtorEq, Int.reduceToNat, Int.reduceLE, Int.reduceLT, Int.reduceBEq, Int.reduceBNe, mCall, rmt_S, rfH, cel3, cel5, zc3, cells_enc, lt_true him, getD_get hi, arg_get him, Nat.zero_le, hle, encs_all, hsb, hap, hrec, h00, (enc_eq (m.arg i)).symm, (enc_eq u).symm, (enc_eq (D.ctx.getD i default)).symm, wrap_succ (n := i) (by omega)]
theorem rmt_bad1 {w : Wo} {m u : Tm} {D : Md} {i : Nat} {e : Int} {h' : List HO} (hi : i < D.ctx.length) (him : i < m.args.length) (hl : D.ctx.length < room) (hlm : m.args.length < room) (hlc : w.ctx.length < room) (he : (e != 0) = true)
    (hap : (lim C).call 86 [dT (D.ctx.getD i default), dS ⟨m.args.take i, w.ctx.length⟩] [] = some (.ret (.tup [dT u, dI e]), h')) :
    (lim C).code 122 (cf (.loop (cf (cf (cs (cf (cs (cs (cs (cs (bodyOf Try.f122))))))))))) (rmt_S w m D i) = some (.ret, rmt_R w e) := by
  have hr : room = 1099511627776 := rfl
  have hz := zT_enc
  have hsb : Dv.agg [.slc ((encs m.args).take i), .int .i64 w.ctx.length] = encS ⟨m.args.take i, w.ctx.length⟩ := by rw [← encs_take]; rfl
  have hle : i ≤ m.args.length := by omega
  simp -implicitDefEqProofs (disch := decide +kernel) only [cf, cs, bodyOf, Try.f122, Option.getD_some, go_sem, ↓reduceIte, Nat.reduceSub, Nat.reduceAdd, Nat.reduceMul, Nat.reduceBEq, Nat.reduceLT, Nat.reduceLeDiff, Nat.reduceEqDiff, reduceCtorEq, Int.reduceToNat, Int.reduceLE, Int.reduceLT, Int.reduceBEq, Int.reduceBNe, mCall, rmt_S, rmt_R, rfH, cel3, cel5, zc3, cells_enc, lt_true him, getD_get hi, arg_get him, Nat.zero_le, hle, encs_all, hsb, hap, he, hz, (enc_eq u).symm, (enc_eq (D.ctx.getD i default)).symm]
theorem rmt_bad2 {w : Wo} {m u : Tm} {D : Md} {i : Nat} {e : Int} {h' : List HO} (hi : i < D.ctx.length) (him : i < m.args.length) (hl : D.ctx.length < room) (hlm : m.args.length < room) (hlc : w.ctx.length < room) (he : (e != 0) = true)
    (hap : (lim C).call 86 [dT (D.ctx.getD i default), dS ⟨m.args.take i, w.ctx.length⟩] [] = some (.ret (.tup [dT u, dI 0]), h'))
    (hrec : (lim C).call 72 [.href 0 0, dL w.ctx, dT (m.arg i), dT u] (rfH w) = some (.ret (dI e), rfH w)) :
    (lim C).code 122 (cf (.loop (cf (cf (cs (cf (cs (cs (cs (cs (bodyOf Try.f122))))))))))) (rmt_S w m D i) = some (.ret, rmt_R w e) := by
  have hr : room = 1099511627776 := rfl
  have hz := zT_enc
  have hsb : Dv.agg [.slc ((encs m.args).take i), .int .i64 w.ctx.length] = encS ⟨m.args.take i, w.ctx.length⟩ := by rw [← encs_take]; rfl
  have h00 : ((0 : Int) != 0) = false := rfl
  have hle : i ≤ m.args.length := by omega
  simp only [rfH] at hrec
  simp -implicitDefEqProofs (disch := decide +kernel) only [cf, cs, bodyOf, Try.f122, Option.getD_some, go_sem, ↓reduceIte, Nat.reduceSub, Nat.reduceAdd, Nat.reduceMul, Nat.reduceBEq, Nat.reduceLT, Nat.reduceLeDiff, Nat.reduceEqDiff, reduceCtorEq, Int.reduceToNat, Int.reduceLE, Int.reduceLT, Int.reduceBEq, Int.reduceBNe, mCall, rmt_S, rmt_R, rfH, cel3, cel5, zc3, cells_enc, lt_true him, getD_get hi, arg_get him, Nat.zero_le, hle, encs_all, hsb, hap, hrec, h00, he, hz, (enc_eq (m.arg i)).symm, (enc_eq u).symm, (enc_eq (D.ctx.getD i default)).symm]
theorem rmeta_app {w : Wo} {m : Tm} {K : Int} (hn : RNodeOk w m K) {x : Tm} (hx : mayB x = true ∧ vleB K x = true) (i : Nat) :
    (∃ h, (lim C).call 86 [dT x, dS ⟨m.args.take i, w.ctx.length⟩] [] = some (.ret (.tup [dT (applyR x ⟨m.args.take i, w.ctx.length⟩).1, dI (applyR x ⟨m.args.take i, w.ctx.length⟩).2]), h)) ∧
    mayB (applyR x ⟨m.args.take i, w.ctx.length⟩).1 = true ∧ vleB (K + 2000000) (applyR x ⟨m.args.take i, w.ctx.length⟩).1 = true := by
  have hr : room = 1099511627776 := rfl
  have ht := hn.top
  have hml : m.args.length < room := by have := len_size m; have := may_room hn.may; omega
  have hp := fun y (hy : y ∈ m.args.take i) => mem_args_may (mem_take' hy) hn.may hn.vle
  refine ⟨rapply_spec x _ (may_room hx.1) (fun y hy => may_room (hp y hy).1) (by simp; omega) (vle_mono (by omega) hx.2) (fun y hy => vle_mono (by omega) (hp y hy).2), applyR_may _ _, applyR_vle hn.h0 hx.2 fun y hy => (hp y hy).2⟩
def rmt_out (w : Wo) (m : Tm) (D : Md) (e : Int) : Ex × St := if e = 0 then (.exit 0, rmt_X w m D) else (.ret, rmt_R w e)
theorem rmt_err (w : Wo) (m : Tm) (D : Md) {e : Int} (h : e ≠ 0) : rmt_out w m D e = (.ret, rmt_R w e) := if_neg h
theorem rmt_loop {w : Wo} {m : Tm} {K : Int} (hn : RNodeOk w m K) {D : Md} (hD : D ∈ w.metas) (hDl : D.ctx.length = m.args.length) : ∀ (k i : Nat), i + k = m.args.length →
    (lim C).code 122 (.loop (cf (cf (cs (cf (cs (cs (cs (cs (bodyOf Try.f122)))))))))) (rmt_S w m D i) =
      some (rmt_out w m D (mtW (argF w m) D.ctx m.args w.ctx.length k i))
  | 0, i, hi => by
    obtain rfl : i = m.args.length := by omega
    simp only [mtW, rmt_out, if_true]
    refine loop_out' ?_ (by simp)
    simp -implicitDefEqProofs (disch := decide +kernel) only [cf, cs, bodyOf, Try.f122, Option.getD_some, go_sem, ↓reduceIte, Nat.reduceSub, Nat.reduceAdd, Nat.reduceMul, Nat.reduceBEq, Nat.reduceLT, Nat.reduceLeDiff, Nat.reduceEqDiff, reduceCtorEq, Int.reduceToNat, Int.reduceLE, Int.reduceLT, Int.reduceBEq, Int.reduceBNe, mCall, rmt_S, rmt_X, cel3, lt_false (Nat.le_refl m.args.length)]
  | k + 1, i, hi => by
    have hr : room = 1099511627776 := rfl
    have hlt : i < m.args.length := by omega
    have hltD : i < D.ctx.length := by omega
    have hml : m.args.length < room := by have := len_size m; have := may_room hn.may; omega
    have hcl := hn.wok.cl
    obtain ⟨_, dl, dc⟩ := hn.wok.metas D hD
    obtain ⟨⟨h', hap⟩, ha1, ha2⟩ := rmeta_app hn (dc _ (getD_mem hltD)) i
    simp only [mtW]
    generalize applyR (D.ctx.getD i default) ⟨m.args.take i, w.ctx.length⟩ = r at hap ha1 ha2 ⊢
    obtain ⟨u, e⟩ := r
    by_cases he : e = 0
    · subst he
      simp only [ne_eq, not_true_eq_false, if_false]
      have hrec := hn.tells i hlt u ha1 (vle_mono (by omega) ha2)
      by_cases he2 : argF w m i u = 0
      · have he' : argW w.wd m i u w.ctx = 0 := he2
        rw [he'] at hrec
        simp only [he2, not_true_eq_false, if_false]
        exact (loop_nor' (rmt_step hltD hlt dl hml (by omega) hap hrec)).trans (rmt_loop hn hD hDl k (i + 1) (by omega))
      · have he' : ¬ argW w.wd m i u w.ctx = 0 := he2
        simp only [he2, not_false_eq_true, if_true]
        rw [rmt_err w m D he2]
        exact loop_out' (rmt_bad2 hltD hlt dl hml (by omega) (by simpa using he') hap hrec) (by simp)
    · simp only [ne_eq, he, not_false_eq_true, if_true]
      rw [rmt_err w m D he]
      exact loop_out' (rmt_bad1 hltD hlt dl hml (by omega) (by simpa using he) hap) (by simp)
theorem rmeta_spec {w : Wo} {m : Tm} {K : Int} (hn : RNodeOk w m K) : (lim C).call 122 [.href 0 0, dL w.ctx, dT m] (rfH w) = some (.ret (.tup [dT (metaW w.wd w.ctx.length (argF w m) m).1, dI (metaW w.wd w.ctx.length (argF w m) m).2]), rfH w) := by
  have hr : room = 1099511627776 := rfl
  have hz := zT_enc
  have hh := node_head (node_here (may_parts hn.may).1)
  have hcl := hn.wok.cl
  have hml : m.args.length < room := by have := len_size m; have := may_room hn.may; omega
  unfold metaW
  have hwm : w.wd.metas = w.metas := rfl
  rw [hwm]
  simp only [rfH]
  rw [ev_fn 122 Try.f122 _ _ _ rfl Try.func122 rfl Try.ntmps122 rfl]
  cases h1 : decide (m.head ≥ (w.metas.length : Int))
  · rw [if_neg (by simpa using h1)]
    have hlt : m.head.toNat < w.metas.length := by simp at h1; omega
    have hg := mget_get hlt
    have hD := mget_mem hlt
    generalize w.metas.getD m.head.toNat default = D at hg hD ⊢
    obtain ⟨dt, dl, dc⟩ := hn.wok.metas D hD
    cases h2 : ((m.args.length : Int) != D.ctx.length)
    · have hDl : D.ctx.length = m.args.length := by simp at h2; omega
      rw [if_neg (by simpa using hDl)]
      have hloop := rmt_loop hn hD hDl m.args.length 0 (by omega)
      obtain ⟨⟨h', hap⟩, ha1, ha2⟩ := rmeta_app hn dt m.args.length
      rw [List.take_length] at hap
      by_cases h3 : mtW (argF w m) D.ctx m.args w.ctx.length m.args.length 0 = 0
      · rw [if_neg (by simpa using h3)]
        rw [rmt_out, if_pos h3] at hloop
        have hsb : Dv.agg [.slc (encs m.args), .int .i64 w.ctx.length] = encS ⟨m.args, w.ctx.length⟩ := rfl
        generalize applyR D.t ⟨m.args, w.ctx.length⟩ = r at hap ⊢
        simp -implicitDefEqProofs (disch := decide +kernel) only [go_sem, ↓reduceIte, Nat.reduceSub, Nat.reduceAdd, Nat.reduceMul, Nat.reduceBEq, Nat.reduceLT, Nat.reduceLeDiff, Nat.reduceEqDiff, reduceCtorEq, Int.reduceToNat, Int.reduceLE, Int.reduceLT, Int.reduceBEq, Int.reduceBNe, mCall, cells_enc, cel3, h1, hg, hh, h2, cells_encM, cel5]
        rw [loop_at hloop ?hb ?hs]
        case hb => rfl
        case hs => rfl
        simp -implicitDefEqProofs (disch := decide +kernel) only [go_sem, ↓reduceIte, Nat.reduceSub, Nat.reduceAdd, Nat.reduceMul, Nat.reduceBEq, Nat.reduceLT, Nat.reduceLeDiff, Nat.reduceEqDiff, reduceCtorEq, Int.reduceToNat, Int.reduceLE, Int.reduceLT, Int.reduceBEq, Int.reduceBNe, mCall, rmt_X, rfH, cel3, cel5, zc3, cells_enc, hsb, hap, (enc_eq D.t).symm, (enc_eq r.1).symm]
      · rw [if_pos (by simpa using h3)]
        rw [rmt_out, if_neg h3] at hloop
        simp -implicitDefEqProofs (disch := decide +kernel) only [go_sem, ↓reduceIte, Nat.reduceSub, Nat.reduceAdd, Nat.reduceMul, Nat.reduceBEq, Nat.reduceLT, Nat.reduceLeDiff, Nat.reduceEqDiff, reduceCtorEq, Int.reduceToNat, Int.reduceLE, Int.reduceLT, Int.reduceBEq, Int.reduceBNe, mCall, cells_enc, cel3, h1, hg, hh, h2, cells_encM, cel5]
        rw [loop_at hloop ?hb ?hs]
        case hb => rfl
        case hs => rfl
        simp -implicitDefEqProofs (disch := decide +kernel) only [go_sem, ↓reduceIte, Nat.reduceSub, Nat.reduceAdd, Nat.reduceMul, Nat.reduceBEq, Nat.reduceLT, Nat.reduceLeDiff, Nat.reduceEqDiff, reduceCtorEq, Int.reduceToNat, Int.reduceLE, Int.reduceLT, Int.reduceBEq, Int.reduceBNe, mCall, rmt_R, rfH, cel3, zc3, cells_enc, zT_enc]
    · have hDl : ¬ D.ctx.length = m.args.length := by simp at h2; omega
      rw [if_pos (by simpa using hDl)]
      simp -implicitDefEqProofs (disch := decide +kernel) only [go_sem, ↓reduceIte, Nat.reduceSub, Nat.reduceAdd, Nat.reduceMul, Nat.reduceBEq, Nat.reduceLT, Nat.reduceLeDiff, Nat.reduceEqDiff, reduceCtorEq, Int.reduceToNat, Int.reduceLE, Int.reduceLT, Int.reduceBEq, Int.reduceBNe, mCall, cells_enc, cel3, h1, hg, hh, h2, hz, cells_encM, cel5]
  · rw [if_pos (by simpa using h1)]
    simp -implicitDefEqProofs (disch := decide +kernel) only [go_sem, ↓reduceIte, Nat.reduceSub, Nat.reduceAdd, Nat.reduceMul, Nat.reduceBEq, Nat.reduceLT, Nat.reduceLeDiff, Nat.reduceEqDiff, reduceCtorEq, Int.reduceToNat, Int.reduceLE, Int.reduceLT, Int.reduceBEq, Int.reduceBNe, mCall, cells_enc, cel3, h1, hz]
end Go.Proofs.Ytmemmdfjlhamfaa
/- The reference of layer 10: terms, types, kinds, and all from outside. -/
set_option linter.unusedSimpArgs false
set_option linter.unusedVariables false
set_option maxRecDepth 100000
namespace Go.Proofs.Ytmemmdfjlhamfaa
open Go.Proofs
set_option maxHeartbeats 4000000 in
theorem rcomes_spec {w : Wo} {m : Tm} {K : Int} (hn : RNodeOk w m K) : (lim C).call 105 [.href 0 0, dL w.ctx, dT m] (rfH w) = some (.ret (.tup [dT (cmW w.wd w.ctx (argF w m) m).1, dI (cmW w.wd w.ctx (argF w m) m).2]), rfH w) := by
  have hr : room = 1099511627776 := rfl
  have hz := zT_enc
  have htv : topV = 1125899906842624 := rfl
  have hh := node_head (node_here (may_parts hn.may).1)
  have hcl := hn.wok.cl
  have h0 := hn.h0
  have htop := hn.top
  have hem := (enc_eq m).symm
  by_cases k4 : m.kind = 4
  · rw [cm_var k4]
    unfold varW
    rw [k4] at hem
    cases h1 : decide (m.head ≥ (w.ctx.length : Int))
    · rw [if_neg (by simpa using h1)]
      have hlt : m.head < w.ctx.length := by simp at h1; omega
      have hx := getD_mem' (l := w.ctx) (i := w.ctx.length - 1 - m.head.toNat) (by omega)
      have hg := getD_get (a := w.ctx) (i := w.ctx.length - 1 - m.head.toNat) (by omega)
      obtain ⟨x1, x2⟩ := hn.wok.ctx _ hx
      generalize w.ctx.getD (w.ctx.length - 1 - m.head.toNat) default = x at hx hg x1 x2 ⊢
      have hu1 := up_may x1 (b := m.head + 1) (by omega) 0
      have hu2 : vleB (K + 2000000) (upT x (m.head + 1) 0) = true := vle_mono (by omega) (vle_up x2 (b := m.head + 1) (by omega) 0)
      have hs := rspine_spec hn hu1 hu2
      rw [spD_go (by rfl)]
      have hw1 : IntKind.wrap .i64 ((w.ctx.length : Int) - 1) = (w.ctx.length : Int) - 1 := wrap_ok (by omega) (by omega)
      have hw2 : IntKind.wrap .i64 ((w.ctx.length : Int) - 1 - m.head) = (w.ctx.length : Int) - 1 - m.head := wrap_ok (by omega) (by omega)
      have hw3 : IntKind.wrap .i64 (m.head + 1) = m.head + 1 := wrap_ok (by omega) (by omega)
      have hi0 : 0 ≤ (w.ctx.length : Int) - 1 - m.head := by omega
      have hi1 : ((w.ctx.length : Int) - 1 - m.head).toNat = w.ctx.length - 1 - m.head.toNat := by omega
      have hren : renB x (m.head + 1) 0 = true := by
        simp only [renB, x1, Bool.true_and, Bool.and_eq_true, decide_eq_true_eq]
        omega
      have hup := rUp_spec x (may_room x1) (vle_mono (by omega) x2) (m.head + 1) 0
      rw [hren, if_pos rfl] at hup
      generalize spW (argF w m) m.arg m.args.length 0 (upT x (m.head + 1) 0) = r at hs ⊢
      simp only [rfH] at hs ⊢
      rw [ev_fn 105 Try.f105 _ _ _ rfl Try.func105 rfl Try.ntmps105 rfl]
      simp -implicitDefEqProofs (disch := decide +kernel) only [go_sem, ↓reduceIte, Nat.reduceSub, Nat.reduceAdd, Nat.reduceMul, Nat.reduceBEq, Nat.reduceLT, Nat.reduceLeDiff, Nat.reduceEqDiff, reduceCtorEq, Int.reduceToNat, Int.reduceLE, Int.reduceLT, Int.reduceBEq, Int.reduceBNe, mCall, cells_enc, cel3, k4, h1, hw1, hw2, hw3, hi0, hi1, hg, hup, hs, (enc_eq x).symm, hem, (enc_eq r.1).symm]
    · rw [if_pos (by simpa using h1)]
      have hs : spD (argF w m) m (zT, 2) = (zT, 2) := rfl
      rw [hs]
      simp only [rfH]
      rw [ev_fn 105 Try.f105 _ _ _ rfl Try.func105 rfl Try.ntmps105 rfl]
      simp -implicitDefEqProofs (disch := decide +kernel) only [go_sem, ↓reduceIte, Nat.reduceSub, Nat.reduceAdd, Nat.reduceMul, Nat.reduceBEq, Nat.reduceLT, Nat.reduceLeDiff, Nat.reduceEqDiff, reduceCtorEq, Int.reduceToNat, Int.reduceLE, Int.reduceLT, Int.reduceBEq, Int.reduceBNe, mCall, cells_enc, cel3, k4, h1, hz]
  by_cases k5 : m.kind = 5
  · rw [cm_const k5]
    rw [k5] at hem
    unfold declW
    have hlen : w.wd.sig.length = w.sig.length := by simp [Wo.wd]
    rw [hlen]
    cases h1 : decide (m.head ≥ (w.sig.length : Int))
    · have hlt : m.head.toNat < w.sig.length := by simp at h1; omega
      have hsd := hn.wok.sig _ (dat_mem hlt)
      have hsk := rkind_spec (Dcs.at w.sig m.head.toNat).t (may_room hsd.1)
      have hka : kindAt w.wd.sig m.head.toNat = ((lastOf (Dcs.at w.sig m.head.toNat).t).kind == 0) := by
        unfold kindAt isKind Wo.wd
        rw [getD_sig hlt]
      have hgd : w.wd.sig.getD m.head.toNat default = (Dcs.at w.sig m.head.toNat).t := getD_sig hlt
      have hge := dat_get hlt
      rw [if_neg (by simpa using h1), hka, hgd]
      cases h2 : ((lastOf (Dcs.at w.sig m.head.toNat).t).kind == 0)
      · rw [if_neg (by simp)]
        have hs := rspine_spec hn hsd.1 (vle_mono (by omega) hsd.2)
        rw [spD_go (by rfl)]
        generalize spW (argF w m) m.arg m.args.length 0 (Dcs.at w.sig m.head.toNat).t = r at hs ⊢
        simp only [rfH] at hs ⊢
        rw [ev_fn 105 Try.f105 _ _ _ rfl Try.func105 rfl Try.ntmps105 rfl]
        simp -implicitDefEqProofs (disch := decide +kernel) only [go_sem, ↓reduceIte, Nat.reduceSub, Nat.reduceAdd, Nat.reduceMul, Nat.reduceBEq, Nat.reduceLT, Nat.reduceLeDiff, Nat.reduceEqDiff, reduceCtorEq, Int.reduceToNat, Int.reduceLE, Int.reduceLT, Int.reduceBEq, Int.reduceBNe, mCall, cells_enc, cel3, k5, h1, hge, hh, hsk, h2, hs, cells_encD, (enc_eq (Dcs.at w.sig m.head.toNat).t).symm, hem, (enc_eq r.1).symm]
      · rw [if_pos (by simp)]
        have hs : spD (argF w m) m (zT, 2) = (zT, 2) := rfl
        rw [hs]
        simp only [rfH]
        rw [ev_fn 105 Try.f105 _ _ _ rfl Try.func105 rfl Try.ntmps105 rfl]
        simp -implicitDefEqProofs (disch := decide +kernel) only [go_sem, ↓reduceIte, Nat.reduceSub, Nat.reduceAdd, Nat.reduceMul, Nat.reduceBEq, Nat.reduceLT, Nat.reduceLeDiff, Nat.reduceEqDiff, reduceCtorEq, Int.reduceToNat, Int.reduceLE, Int.reduceLT, Int.reduceBEq, Int.reduceBNe, mCall, cells_enc, cel3, k5, h1, hge, hh, hsk, h2, hz, cells_encD, (enc_eq (Dcs.at w.sig m.head.toNat).t).symm, hem]
    · rw [if_pos (by simpa using h1)]
      have hs : spD (argF w m) m (zT, 2) = (zT, 2) := rfl
      rw [hs]
      simp only [rfH]
      rw [ev_fn 105 Try.f105 _ _ _ rfl Try.func105 rfl Try.ntmps105 rfl]
      simp -implicitDefEqProofs (disch := decide +kernel) only [go_sem, ↓reduceIte, Nat.reduceSub, Nat.reduceAdd, Nat.reduceMul, Nat.reduceBEq, Nat.reduceLT, Nat.reduceLeDiff, Nat.reduceEqDiff, reduceCtorEq, Int.reduceToNat, Int.reduceLE, Int.reduceLT, Int.reduceBEq, Int.reduceBNe, mCall, cells_enc, cel3, k5, h1, hz]
  by_cases k6 : m.kind = 6
  · rw [cm_meta k6]
    rw [k6] at hem
    have hs := rmeta_spec hn
    generalize metaW w.wd w.ctx.length (argF w m) m = r at hs ⊢
    simp only [rfH] at hs ⊢
    rw [ev_fn 105 Try.f105 _ _ _ rfl Try.func105 rfl Try.ntmps105 rfl]
    simp -implicitDefEqProofs (disch := decide +kernel) only [go_sem, ↓reduceIte, Nat.reduceSub, Nat.reduceAdd, Nat.reduceMul, Nat.reduceBEq, Nat.reduceLT, Nat.reduceLeDiff, Nat.reduceEqDiff, reduceCtorEq, Int.reduceToNat, Int.reduceLE, Int.reduceLT, Int.reduceBEq, Int.reduceBNe, mCall, cells_enc, cel3, k6, hs, hem, (enc_eq r.1).symm]
  · have hc : cmW w.wd w.ctx (argF w m) m = (zT, 3) := by unfold cmW; rw [if_neg k4, if_neg k5, if_neg k6]
    rw [hc]
    have k4' : (m.kind == 4) = false := by simpa using k4
    have k5' : (m.kind == 5) = false := by simpa using k5
    have k6' : (m.kind == 6) = false := by simpa using k6
    simp only [rfH]
    rw [ev_fn 105 Try.f105 _ _ _ rfl Try.func105 rfl Try.ntmps105 rfl]
    simp -implicitDefEqProofs (disch := decide +kernel) only [go_sem, ↓reduceIte, Nat.reduceSub, Nat.reduceAdd, Nat.reduceMul, Nat.reduceBEq, Nat.reduceLT, Nat.reduceLeDiff, Nat.reduceEqDiff, reduceCtorEq, Int.reduceToNat, Int.reduceLE, Int.reduceLT, Int.reduceBEq, Int.reduceBNe, mCall, cells_enc, cel3, k4', k5', k6', hz]
set_option maxHeartbeats 4000000 in
theorem rterm_spec : ∀ m : Tm, mayB m = true → ∀ (w : Wo) (a : Tm) (K : Int), vleB K m = true → WOk K w m.size → K + 4000000 * (m.size : Int) ≤ topV → mayB a = true → vleB K a = true →
    (lim C).call 72 [.href 0 0, dL w.ctx, dT m, dT a] (rfH w) = some (.ret (dI (termW w.wd m a w.ctx)), rfH w) := by
  refine Tm.ind fun m ih hm w a K hv hw hK ha hva => ?_
  have hr : room = 1099511627776 := rfl
  have hn := (may_parts hm).1
  have hcl := hw.cl
  have hsp := size_pos m
  have hem := (enc_eq m).symm
  have hea := (enc_eq a).symm
  have h0 := hw.h0
  have hT : RNodeOk w m K := ⟨fun i hi x hx hvx => by
      have hal := arg_len hi
      have hc := ih _ (arg_mem hi) (may_argm (arg_mem hi) hm) w x (K + 2000000 * ((i : Int) + 1)) (vle_mono (by omega) (vle_args hv i hi)) (hw.mono (by omega) (by omega)) (by omega) hx hvx
      rw [argW_lt hi]; exact hc, hm, hv, hw, hK⟩
  rw [termW_eq]
  unfold termB
  by_cases k3 : m.kind = 3
  · rw [if_pos k3]
    by_cases a1 : a.kind = 1
    · rw [if_pos a1]
      have hl := lam_len hn k3
      have hl2 := pi_len (may_parts ha).1 a1
      have hsz := arg_len (m := m) (i := 0) (by omega)
      have m0 := may_argm (arg_mem (t := a) (i := 0) (by omega)) ha
      have m1 := may_argm (arg_mem (t := a) (i := 1) (by omega)) ha
      have hww : WOk K (w.with (a.arg 0)) (m.arg 0).size := (hw.mono (Int.le_refl K) (by omega)).with m0 (vle_args hva 0 (by omega))
      have hc := ih _ (arg_mem (t := m) (i := 0) (by omega)) (may_argm (arg_mem (by omega)) hm) (w.with (a.arg 0)) (a.arg 1) K (vle_args hv 0 (by omega)) hww (by omega) m1 (vle_args hva 1 (by omega))
      rw [argW_lt (by omega)]
      have hc : (lim C).call 72 [.href 0 0, dL (w.ctx ++ [a.arg 0]), dT (m.arg 0), dT (a.arg 1)] (rfH w) = some (CR.ret (dI (termW w.wd (m.arg 0) (a.arg 1) (w.ctx ++ [a.arg 0]))), rfH w) := hc
      have hwith := rmore_spec w.ctx (a.arg 0) (by omega)
      have e0 : m.args[0]? = some (m.arg 0) := arg_get (by omega)
      have f0 : a.args[0]? = some (a.arg 0) := arg_get (by omega)
      have f1 : a.args[1]? = some (a.arg 1) := arg_get (by omega)
      generalize termW w.wd (m.arg 0) (a.arg 1) (w.ctx ++ [a.arg 0]) = r at hc ⊢
      simp only [rfH] at hc ⊢
      rw [ev_fn 72 Try.f72 _ _ _ rfl Try.func72 rfl Try.ntmps72 rfl]
      simp -implicitDefEqProofs (disch := decide +kernel) only [go_sem, ↓reduceIte, Nat.reduceSub, Nat.reduceAdd, Nat.reduceMul, Nat.reduceBEq, Nat.reduceLT, Nat.reduceLeDiff, Nat.reduceEqDiff, reduceCtorEq, Int.reduceToNat, Int.reduceLE, Int.reduceLT, Int.reduceBEq, Int.reduceBNe, mCall, cells_enc, cel3, k3, a1, e0, f0, f1, hwith, hc, (enc_eq (m.arg 0)).symm, (enc_eq (a.arg 0)).symm, (enc_eq (a.arg 1)).symm]
    · rw [if_neg a1]
      have a1' : (a.kind != 1) = true := by simpa using a1
      simp only [rfH]
      rw [ev_fn 72 Try.f72 _ _ _ rfl Try.func72 rfl Try.ntmps72 rfl]
      simp -implicitDefEqProofs (disch := decide +kernel) only [go_sem, ↓reduceIte, Nat.reduceSub, Nat.reduceAdd, Nat.reduceMul, Nat.reduceBEq, Nat.reduceLT, Nat.reduceLeDiff, Nat.reduceEqDiff, reduceCtorEq, Int.reduceToNat, Int.reduceLE, Int.reduceLT, Int.reduceBEq, Int.reduceBNe, mCall, cells_enc, cel3, k3, a1', hem, hea]
  · rw [if_neg k3]
    have k3' : (m.kind == 3) = false := by simpa using k3
    by_cases a2 : a.kind = 2
    · rw [if_neg (by simpa using a2)]
      have hc := rcomes_spec hT
      have hr2 : mayB (cmW w.wd w.ctx (argF w m) m).1 = true := cm_may hw (node_head (node_here hn))
      have a2' : (a.kind != 2) = false := by simpa using a2
      have hfs : cmW w.wd w.ctx (fun i x => argW w.wd m i x w.ctx) m = cmW w.wd w.ctx (argF w m) m := rfl
      rw [hfs]
      generalize cmW w.wd w.ctx (argF w m) m = r at hc hr2 ⊢
      have hsm := rsame_spec r.1 (may_room hr2) a
      have her := (enc_eq r.1).symm
      obtain ⟨t, e⟩ := r
      simp only [rfH] at hc ⊢
      simp only at hsm her
      by_cases he : e = 0
      · subst he
        have h00 : ((0 : Int) != 0) = false := rfl
        rw [if_neg (by simp)]
        cases hs : sameB t a
        · rw [hs] at hsm
          rw [ev_fn 72 Try.f72 _ _ _ rfl Try.func72 rfl Try.ntmps72 rfl]
          simp -implicitDefEqProofs (disch := decide +kernel) only [go_sem, ↓reduceIte, Nat.reduceSub, Nat.reduceAdd, Nat.reduceMul, Nat.reduceBEq, Nat.reduceLT, Nat.reduceLeDiff, Nat.reduceEqDiff, reduceCtorEq, Int.reduceToNat, Int.reduceLE, Int.reduceLT, Int.reduceBEq, Int.reduceBNe, mCall, cells_enc, cel3, k3', a2', hem, hea, hc, her, h00, hsm]
        · rw [hs] at hsm
          rw [ev_fn 72 Try.f72 _ _ _ rfl Try.func72 rfl Try.ntmps72 rfl]
          simp -implicitDefEqProofs (disch := decide +kernel) only [go_sem, ↓reduceIte, Nat.reduceSub, Nat.reduceAdd, Nat.reduceMul, Nat.reduceBEq, Nat.reduceLT, Nat.reduceLeDiff, Nat.reduceEqDiff, reduceCtorEq, Int.reduceToNat, Int.reduceLE, Int.reduceLT, Int.reduceBEq, Int.reduceBNe, mCall, cells_enc, cel3, k3', a2', hem, hea, hc, her, h00, hsm]
      · have he' : (e != 0) = true := by simpa using he
        rw [if_pos (by simpa using he)]
        rw [ev_fn 72 Try.f72 _ _ _ rfl Try.func72 rfl Try.ntmps72 rfl]
        simp -implicitDefEqProofs (disch := decide +kernel) only [go_sem, ↓reduceIte, Nat.reduceSub, Nat.reduceAdd, Nat.reduceMul, Nat.reduceBEq, Nat.reduceLT, Nat.reduceLeDiff, Nat.reduceEqDiff, reduceCtorEq, Int.reduceToNat, Int.reduceLE, Int.reduceLT, Int.reduceBEq, Int.reduceBNe, mCall, cells_enc, cel3, k3', a2', hem, hea, hc, her, he']
    · rw [if_pos (by simpa using a2)]
      have a2' : (a.kind != 2) = true := by simpa using a2
      simp only [rfH]
      rw [ev_fn 72 Try.f72 _ _ _ rfl Try.func72 rfl Try.ntmps72 rfl]
      simp -implicitDefEqProofs (disch := decide +kernel) only [go_sem, ↓reduceIte, Nat.reduceSub, Nat.reduceAdd, Nat.reduceMul, Nat.reduceBEq, Nat.reduceLT, Nat.reduceLeDiff, Nat.reduceEqDiff, reduceCtorEq, Int.reduceToNat, Int.reduceLE, Int.reduceLT, Int.reduceBEq, Int.reduceBNe, mCall, cells_enc, cel3, k3', a2', hem, hea]
theorem rnode_ok {w : Wo} {m : Tm} {K : Int} (hm : mayB m = true) (hv : vleB K m = true) (hw : WOk K w m.size) (hK : K + 4000000 * (m.size : Int) ≤ topV) : RNodeOk w m K := ⟨fun i hi x hx hvx => by
    have hal := arg_len hi
    have h0 := hw.h0
    have hc := rterm_spec _ (may_argm (arg_mem hi) hm) w x (K + 2000000 * ((i : Int) + 1)) (vle_mono (by omega) (vle_args hv i hi)) (hw.mono (by omega) (by omega)) (by omega) hx hvx
    rw [argW_lt hi]; exact hc, hm, hv, hw, hK⟩
set_option maxHeartbeats 4000000 in
theorem rtyp_spec : ∀ a : Tm, mayB a = true → ∀ (w : Wo) (K : Int), vleB K a = true → WOk K w a.size → K + 4000000 * (a.size : Int) ≤ topV →
    (lim C).call 74 [.href 0 0, dL w.ctx, dT a] (rfH w) = some (.ret (dI (typW w.wd a w.ctx)), rfH w) := by
  refine Tm.ind fun a ih ha w K hv hw hK => ?_
  have hr : room = 1099511627776 := rfl
  have hn := (may_parts ha).1
  have hcl := hw.cl
  have hsp := size_pos a
  have hea := (enc_eq a).symm
  have h0 := hw.h0
  by_cases k1 : a.kind = 1
  · have hl := pi_len hn k1
    rw [typW_pi _ k1 (by omega)]
    have hz0 := arg_len (m := a) (i := 0) (by omega)
    have hz1 := arg_len (m := a) (i := 1) (by omega)
    have m0 := may_argm (arg_mem (t := a) (i := 0) (by omega)) ha
    have m1 := may_argm (arg_mem (t := a) (i := 1) (by omega)) ha
    have hc := ih _ (arg_mem (t := a) (i := 0) (by omega)) m0 w K (vle_args hv 0 (by omega)) (hw.mono (Int.le_refl K) (by omega)) (by omega)
    have hww : WOk K (w.with (a.arg 0)) (a.arg 1).size := (hw.mono (Int.le_refl K) (by omega)).with m0 (vle_args hv 0 (by omega))
    have hc' := ih _ (arg_mem (t := a) (i := 1) (by omega)) m1 (w.with (a.arg 0)) K (vle_args hv 1 (by omega)) hww (by omega)
    have hc' : (lim C).call 74 [.href 0 0, dL (w.ctx ++ [a.arg 0]), dT (a.arg 1)] (rfH w) = some (CR.ret (dI (typW w.wd (a.arg 1) (w.ctx ++ [a.arg 0]))), rfH w) := hc'
    have hwith := rmore_spec w.ctx (a.arg 0) (by omega)
    have f0 : a.args[0]? = some (a.arg 0) := arg_get (by omega)
    have f1 : a.args[1]? = some (a.arg 1) := arg_get (by omega)
    simp only [rfH] at hc hc' ⊢
    by_cases he : typW w.wd (a.arg 0) w.ctx = 0
    · rw [if_neg (by simpa using he)]
      rw [he] at hc
      have h00 : ((0 : Int) != 0) = false := rfl
      rw [ev_fn 74 Try.f74 _ _ _ rfl Try.func74 rfl Try.ntmps74 rfl]
      simp -implicitDefEqProofs (disch := decide +kernel) only [go_sem, ↓reduceIte, Nat.reduceSub, Nat.reduceAdd, Nat.reduceMul, Nat.reduceBEq, Nat.reduceLT, Nat.reduceLeDiff, Nat.reduceEqDiff, reduceCtorEq, Int.reduceToNat, Int.reduceLE, Int.reduceLT, Int.reduceBEq, Int.reduceBNe, mCall, cells_enc, cel3, k1, f0, f1, hc, h00, hwith, hc', (enc_eq (a.arg 0)).symm, (enc_eq (a.arg 1)).symm]
    · rw [if_pos (by simpa using he)]
      have he' : (typW w.wd (a.arg 0) w.ctx != 0) = true := by simpa using he
      rw [ev_fn 74 Try.f74 _ _ _ rfl Try.func74 rfl Try.ntmps74 rfl]
      simp -implicitDefEqProofs (disch := decide +kernel) only [go_sem, ↓reduceIte, Nat.reduceSub, Nat.reduceAdd, Nat.reduceMul, Nat.reduceBEq, Nat.reduceLT, Nat.reduceLeDiff, Nat.reduceEqDiff, reduceCtorEq, Int.reduceToNat, Int.reduceLE, Int.reduceLT, Int.reduceBEq, Int.reduceBNe, mCall, cells_enc, cel3, k1, f0, f1, hc, he', (enc_eq (a.arg 0)).symm]
  · have k1' : (a.kind == 1) = false := by simpa using k1
    by_cases k2 : a.kind = 2
    · rw [typW_fam _ k2]
      have hh := node_head (node_here hn)
      have hT := rnode_ok ha hv hw hK
      have hlen : w.wd.sig.length = w.sig.length := by simp [Wo.wd]
      unfold famW
      cases h1 : decide (a.head ≥ (w.sig.length : Int))
      · have hlt : a.head.toNat < w.sig.length := by simp at h1; omega
        have hsd := hw.sig _ (dat_mem hlt)
        have hsk := rkind_spec (Dcs.at w.sig a.head.toNat).t (may_room hsd.1)
        have hka : kindAt w.wd.sig a.head.toNat = ((lastOf (Dcs.at w.sig a.head.toNat).t).kind == 0) := by
          unfold kindAt isKind Wo.wd
          rw [getD_sig hlt]
        have hgd : w.wd.sig.getD a.head.toNat default = (Dcs.at w.sig a.head.toNat).t := getD_sig hlt
        have hge := dat_get hlt
        cases h2 : ((lastOf (Dcs.at w.sig a.head.toNat).t).kind == 0)
        · have hq : declW w.wd a.head true = (zT, 2) := by
            unfold declW
            rw [hlen, if_neg (by simpa using h1), hka, h2]
            rfl
          have hs : spD (fun i x => argW w.wd a i x w.ctx) a (zT, 2) = (zT, 2) := rfl
          rw [hq, hs, if_pos (by simp)]
          simp only [rfH]
          rw [ev_fn 74 Try.f74 _ _ _ rfl Try.func74 rfl Try.ntmps74 rfl]
          simp -implicitDefEqProofs (disch := decide +kernel) only [go_sem, ↓reduceIte, Nat.reduceSub, Nat.reduceAdd, Nat.reduceMul, Nat.reduceBEq, Nat.reduceLT, Nat.reduceLeDiff, Nat.reduceEqDiff, reduceCtorEq, Int.reduceToNat, Int.reduceLE, Int.reduceLT, Int.reduceBEq, Int.reduceBNe, mCall, cells_enc, cel3, k2, h1, hge, hh, hsk, h2, cells_encD, (enc_eq (Dcs.at w.sig a.head.toNat).t).symm]
        · have hq : declW w.wd a.head true = ((Dcs.at w.sig a.head.toNat).t, 0) := by
            unfold declW
            rw [hlen, if_neg (by simpa using h1), hka, h2, hgd]
            rfl
          rw [hq]
          have hs := rspine_spec hT hsd.1 (vle_mono (by omega) hsd.2)
          have hs : _ = some (CR.ret (.tup [dT (spW (fun i x => argW w.wd a i x w.ctx) a.arg a.args.length 0 (Dcs.at w.sig a.head.toNat).t).1, dI (spW (fun i x => argW w.wd a i x w.ctx) a.arg a.args.length 0 (Dcs.at w.sig a.head.toNat).t).2]), rfH w) := hs
          rw [spD_go (by rfl)]
          generalize spW (fun i x => argW w.wd a i x w.ctx) a.arg a.args.length 0 (Dcs.at w.sig a.head.toNat).t = r at hs ⊢
          simp only [rfH] at hs ⊢
          by_cases he2 : r.2 = 0
          · have he2' : (r.2 != 0) = false := by simpa using he2
            rw [if_neg (by simpa using he2)]
            by_cases hk : r.1.kind = 0
            · have hk' : (r.1.kind != 0) = false := by simpa using hk
              rw [if_neg (by simpa using hk)]
              rw [ev_fn 74 Try.f74 _ _ _ rfl Try.func74 rfl Try.ntmps74 rfl]
              simp -implicitDefEqProofs (disch := decide +kernel) only [go_sem, ↓reduceIte, Nat.reduceSub, Nat.reduceAdd, Nat.reduceMul, Nat.reduceBEq, Nat.reduceLT, Nat.reduceLeDiff, Nat.reduceEqDiff, reduceCtorEq, Int.reduceToNat, Int.reduceLE, Int.reduceLT, Int.reduceBEq, Int.reduceBNe, mCall, cells_enc, cel3, k2, h1, hge, hh, hsk, h2, hs, he2', hk', cells_encD, (enc_eq (Dcs.at w.sig a.head.toNat).t).symm]
            · have hk' : (r.1.kind != 0) = true := by simpa using hk
              rw [if_pos (by simpa using hk)]
              rw [ev_fn 74 Try.f74 _ _ _ rfl Try.func74 rfl Try.ntmps74 rfl]
              simp -implicitDefEqProofs (disch := decide +kernel) only [go_sem, ↓reduceIte, Nat.reduceSub, Nat.reduceAdd, Nat.reduceMul, Nat.reduceBEq, Nat.reduceLT, Nat.reduceLeDiff, Nat.reduceEqDiff, reduceCtorEq, Int.reduceToNat, Int.reduceLE, Int.reduceLT, Int.reduceBEq, Int.reduceBNe, mCall, cells_enc, cel3, k2, h1, hge, hh, hsk, h2, hs, he2', hk', cells_encD, (enc_eq (Dcs.at w.sig a.head.toNat).t).symm]
          · have he2' : (r.2 != 0) = true := by simpa using he2
            rw [if_pos (by simpa using he2)]
            rw [ev_fn 74 Try.f74 _ _ _ rfl Try.func74 rfl Try.ntmps74 rfl]
            simp -implicitDefEqProofs (disch := decide +kernel) only [go_sem, ↓reduceIte, Nat.reduceSub, Nat.reduceAdd, Nat.reduceMul, Nat.reduceBEq, Nat.reduceLT, Nat.reduceLeDiff, Nat.reduceEqDiff, reduceCtorEq, Int.reduceToNat, Int.reduceLE, Int.reduceLT, Int.reduceBEq, Int.reduceBNe, mCall, cells_enc, cel3, k2, h1, hge, hh, hsk, h2, hs, he2', cells_encD, (enc_eq (Dcs.at w.sig a.head.toNat).t).symm]
      · have hq : declW w.wd a.head true = (zT, 2) := by
          unfold declW
          rw [hlen]
          exact if_pos (by simpa using h1)
        have hs : spD (fun i x => argW w.wd a i x w.ctx) a (zT, 2) = (zT, 2) := rfl
        rw [hq, hs, if_pos (by simp)]
        simp only [rfH]
        rw [ev_fn 74 Try.f74 _ _ _ rfl Try.func74 rfl Try.ntmps74 rfl]
        simp -implicitDefEqProofs (disch := decide +kernel) only [go_sem, ↓reduceIte, Nat.reduceSub, Nat.reduceAdd, Nat.reduceMul, Nat.reduceBEq, Nat.reduceLT, Nat.reduceLeDiff, Nat.reduceEqDiff, reduceCtorEq, Int.reduceToNat, Int.reduceLE, Int.reduceLT, Int.reduceBEq, Int.reduceBNe, mCall, cells_enc, cel3, k2, h1]
    · rw [typW_no _ k1 k2]
      have k2' : (a.kind != 2) = true := by simpa using k2
      simp only [rfH]
      rw [ev_fn 74 Try.f74 _ _ _ rfl Try.func74 rfl Try.ntmps74 rfl]
      simp -implicitDefEqProofs (disch := decide +kernel) only [go_sem, ↓reduceIte, Nat.reduceSub, Nat.reduceAdd, Nat.reduceMul, Nat.reduceBEq, Nat.reduceLT, Nat.reduceLeDiff, Nat.reduceEqDiff, reduceCtorEq, Int.reduceToNat, Int.reduceLE, Int.reduceLT, Int.reduceBEq, Int.reduceBNe, mCall, cells_enc, cel3, k1', k2']
set_option maxHeartbeats 4000000 in
theorem rkindT_spec : ∀ a : Tm, mayB a = true → ∀ (w : Wo) (K : Int), vleB K a = true → WOk K w a.size → K + 4000000 * (a.size : Int) ≤ topV →
    (lim C).call 76 [.href 0 0, dL w.ctx, dT a] (rfH w) = some (.ret (dI (kindW w.wd a w.ctx)), rfH w) := by
  refine Tm.ind fun a ih ha w K hv hw hK => ?_
  have hr : room = 1099511627776 := rfl
  have hn := (may_parts ha).1
  have hcl := hw.cl
  have hsp := size_pos a
  have hea := (enc_eq a).symm
  by_cases k0 : a.kind = 0
  · rw [kindW_sort _ k0]
    simp only [rfH]
    rw [ev_fn 76 Try.f76 _ _ _ rfl Try.func76 rfl Try.ntmps76 rfl]
    simp -implicitDefEqProofs (disch := decide +kernel) only [go_sem, ↓reduceIte, Nat.reduceSub, Nat.reduceAdd, Nat.reduceMul, Nat.reduceBEq, Nat.reduceLT, Nat.reduceLeDiff, Nat.reduceEqDiff, reduceCtorEq, Int.reduceToNat, Int.reduceLE, Int.reduceLT, Int.reduceBEq, Int.reduceBNe, mCall, cells_enc, cel3, k0]
  have k0' : (a.kind == 0) = false := by simpa using k0
  by_cases k1 : a.kind = 1
  · have hl := pi_len hn k1
    rw [kindW_pi _ k1 (by omega)]
    have hz0 := arg_len (m := a) (i := 0) (by omega)
    have hz1 := arg_len (m := a) (i := 1) (by omega)
    have m0 := may_argm (arg_mem (t := a) (i := 0) (by omega)) ha
    have m1 := may_argm (arg_mem (t := a) (i := 1) (by omega)) ha
    have hc := rtyp_spec _ m0 w K (vle_args hv 0 (by omega)) (hw.mono (Int.le_refl K) (by omega)) (by omega)
    have hww : WOk K (w.with (a.arg 0)) (a.arg 1).size := (hw.mono (Int.le_refl K) (by omega)).with m0 (vle_args hv 0 (by omega))
    have hc' := ih _ (arg_mem (t := a) (i := 1) (by omega)) m1 (w.with (a.arg 0)) K (vle_args hv 1 (by omega)) hww (by omega)
    have hc' : (lim C).call 76 [.href 0 0, dL (w.ctx ++ [a.arg 0]), dT (a.arg 1)] (rfH w) = some (CR.ret (dI (kindW w.wd (a.arg 1) (w.ctx ++ [a.arg 0]))), rfH w) := hc'
    have hwith := rmore_spec w.ctx (a.arg 0) (by omega)
    have f0 : a.args[0]? = some (a.arg 0) := arg_get (by omega)
    have f1 : a.args[1]? = some (a.arg 1) := arg_get (by omega)
    simp only [rfH] at hc hc' ⊢
    by_cases he : typW w.wd (a.arg 0) w.ctx = 0
    · rw [if_neg (by simpa using he)]
      rw [he] at hc
      have h00 : ((0 : Int) != 0) = false := rfl
      rw [ev_fn 76 Try.f76 _ _ _ rfl Try.func76 rfl Try.ntmps76 rfl]
      simp -implicitDefEqProofs (disch := decide +kernel) only [go_sem, ↓reduceIte, Nat.reduceSub, Nat.reduceAdd, Nat.reduceMul, Nat.reduceBEq, Nat.reduceLT, Nat.reduceLeDiff, Nat.reduceEqDiff, reduceCtorEq, Int.reduceToNat, Int.reduceLE, Int.reduceLT, Int.reduceBEq, Int.reduceBNe, mCall, cells_enc, cel3, k1, f0, f1, hc, h00, hwith, hc', (enc_eq (a.arg 0)).symm, (enc_eq (a.arg 1)).symm]
    · rw [if_pos (by simpa using he)]
      have he' : (typW w.wd (a.arg 0) w.ctx != 0) = true := by simpa using he
      rw [ev_fn 76 Try.f76 _ _ _ rfl Try.func76 rfl Try.ntmps76 rfl]
      simp -implicitDefEqProofs (disch := decide +kernel) only [go_sem, ↓reduceIte, Nat.reduceSub, Nat.reduceAdd, Nat.reduceMul, Nat.reduceBEq, Nat.reduceLT, Nat.reduceLeDiff, Nat.reduceEqDiff, reduceCtorEq, Int.reduceToNat, Int.reduceLE, Int.reduceLT, Int.reduceBEq, Int.reduceBNe, mCall, cells_enc, cel3, k1, f0, f1, hc, he', (enc_eq (a.arg 0)).symm]
  · rw [kindW_no _ k0 k1]
    have k1' : (a.kind != 1) = true := by simpa using k1
    simp only [rfH]
    rw [ev_fn 76 Try.f76 _ _ _ rfl Try.func76 rfl Try.ntmps76 rfl]
    simp -implicitDefEqProofs (disch := decide +kernel) only [go_sem, ↓reduceIte, Nat.reduceSub, Nat.reduceAdd, Nat.reduceMul, Nat.reduceBEq, Nat.reduceLT, Nat.reduceLeDiff, Nat.reduceEqDiff, reduceCtorEq, Int.reduceToNat, Int.reduceLE, Int.reduceLT, Int.reduceBEq, Int.reduceBNe, mCall, cells_enc, cel3, k0', k1']
theorem rTerm_spec {K : Int} {w : Wo} (h : WIn K w) (m a : Tm) (hm : m.size < room) (hvm : vleB K m = true) (ha : a.size < room) (hva : vleB K a = true) :
    ∃ h, (lim C).call 39 [dDs w.sig, dMs w.metas, dL w.ctx, dT m, dT a] [] = some (.ret (dI (TermR w.wd w.ctx m a)), h) := by
  have hr : room = 1099511627776 := rfl
  have ht := h.top
  have hc := rMay_spec w [m, a] h.sz (by simp; omega) (by simp; exact ⟨hm, ha⟩)
  have hl2' : [enc m, enc a] = encs [m, a] := rfl
  unfold TermR
  cases hmw : mayW w.wd w.ctx [m, a]
  · rw [hmw] at hc
    refine ⟨[], ?_⟩
    rw [ev_fn 39 Try.f39 _ _ _ rfl Try.func39 rfl Try.ntmps39 rfl]
    simp -implicitDefEqProofs (disch := decide +kernel) only [go_sem, ↓reduceIte, Nat.reduceSub, Nat.reduceAdd, Nat.reduceMul, Nat.reduceBEq, Nat.reduceLT, Nat.reduceLeDiff, Nat.reduceEqDiff, reduceCtorEq, Int.reduceToNat, Int.reduceLE, Int.reduceLT, Int.reduceBEq, Int.reduceBNe, mCall, hc, hl2', cells_enc, cel3, (enc_eq m).symm, (enc_eq a).symm]
  · rw [hmw] at hc
    obtain ⟨o1, o2⟩ := h.ok hmw
    have hms := (may_parts (o2 m (by simp))).2.1
    have hcc := rterm_spec m (o2 m (by simp)) w a K hvm (o1.mono (Int.le_refl K) (by omega)) (by omega) (o2 a (by simp)) hva
    rw [if_pos rfl]
    refine ⟨rfH w, ?_⟩
    simp only [rfH] at hcc ⊢
    rw [ev_fn 39 Try.f39 _ _ _ rfl Try.func39 rfl Try.ntmps39 rfl]
    simp -implicitDefEqProofs (disch := decide +kernel) only [go_sem, ↓reduceIte, Nat.reduceSub, Nat.reduceAdd, Nat.reduceMul, Nat.reduceBEq, Nat.reduceLT, Nat.reduceLeDiff, Nat.reduceEqDiff, reduceCtorEq, Int.reduceToNat, Int.reduceLE, Int.reduceLT, Int.reduceBEq, Int.reduceBNe, mCall, hc, hcc, hl2', cells_enc, cel3, (enc_eq m).symm, (enc_eq a).symm]
theorem rType_spec {K : Int} {w : Wo} (h : WIn K w) (a : Tm) (ha : a.size < room) (hva : vleB K a = true) :
    ∃ h, (lim C).call 41 [dDs w.sig, dMs w.metas, dL w.ctx, dT a] [] = some (.ret (dI (TypR w.wd w.ctx a)), h) := by
  have hr : room = 1099511627776 := rfl
  have ht := h.top
  have hc := rMay_spec w [a] h.sz (by simp; omega) (by simpa using ha)
  have hl2' : [enc a] = encs [a] := rfl
  unfold TypR
  cases hmw : mayW w.wd w.ctx [a]
  · rw [hmw] at hc
    refine ⟨[], ?_⟩
    rw [ev_fn 41 Try.f41 _ _ _ rfl Try.func41 rfl Try.ntmps41 rfl]
    simp -implicitDefEqProofs (disch := decide +kernel) only [go_sem, ↓reduceIte, Nat.reduceSub, Nat.reduceAdd, Nat.reduceMul, Nat.reduceBEq, Nat.reduceLT, Nat.reduceLeDiff, Nat.reduceEqDiff, reduceCtorEq, Int.reduceToNat, Int.reduceLE, Int.reduceLT, Int.reduceBEq, Int.reduceBNe, mCall, hc, hl2', cells_enc, cel3, (enc_eq a).symm]
  · rw [hmw] at hc
    obtain ⟨o1, o2⟩ := h.ok hmw
    have hms := (may_parts (o2 a (by simp))).2.1
    have hcc := rtyp_spec a (o2 a (by simp)) w K hva (o1.mono (Int.le_refl K) (by omega)) (by omega)
    rw [if_pos rfl]
    refine ⟨rfH w, ?_⟩
    simp only [rfH] at hcc ⊢
    rw [ev_fn 41 Try.f41 _ _ _ rfl Try.func41 rfl Try.ntmps41 rfl]
    simp -implicitDefEqProofs (disch := decide +kernel) only [go_sem, ↓reduceIte, Nat.reduceSub, Nat.reduceAdd, Nat.reduceMul, Nat.reduceBEq, Nat.reduceLT, Nat.reduceLeDiff, Nat.reduceEqDiff, reduceCtorEq, Int.reduceToNat, Int.reduceLE, Int.reduceLT, Int.reduceBEq, Int.reduceBNe, mCall, hc, hcc, hl2', cells_enc, cel3, (enc_eq a).symm]
theorem rKind_spec {K : Int} {w : Wo} (h : WIn K w) (a : Tm) (ha : a.size < room) (hva : vleB K a = true) :
    ∃ h, (lim C).call 43 [dDs w.sig, dMs w.metas, dL w.ctx, dT a] [] = some (.ret (dI (KindR w.wd w.ctx a)), h) := by
  have hr : room = 1099511627776 := rfl
  have ht := h.top
  have hc := rMay_spec w [a] h.sz (by simp; omega) (by simpa using ha)
  have hl2' : [enc a] = encs [a] := rfl
  unfold KindR
  cases hmw : mayW w.wd w.ctx [a]
  · rw [hmw] at hc
    refine ⟨[], ?_⟩
    rw [ev_fn 43 Try.f43 _ _ _ rfl Try.func43 rfl Try.ntmps43 rfl]
    simp -implicitDefEqProofs (disch := decide +kernel) only [go_sem, ↓reduceIte, Nat.reduceSub, Nat.reduceAdd, Nat.reduceMul, Nat.reduceBEq, Nat.reduceLT, Nat.reduceLeDiff, Nat.reduceEqDiff, reduceCtorEq, Int.reduceToNat, Int.reduceLE, Int.reduceLT, Int.reduceBEq, Int.reduceBNe, mCall, hc, hl2', cells_enc, cel3, (enc_eq a).symm]
  · rw [hmw] at hc
    obtain ⟨o1, o2⟩ := h.ok hmw
    have hms := (may_parts (o2 a (by simp))).2.1
    have hcc := rkindT_spec a (o2 a (by simp)) w K hva (o1.mono (Int.le_refl K) (by omega)) (by omega)
    rw [if_pos rfl]
    refine ⟨rfH w, ?_⟩
    simp only [rfH] at hcc ⊢
    rw [ev_fn 43 Try.f43 _ _ _ rfl Try.func43 rfl Try.ntmps43 rfl]
    simp -implicitDefEqProofs (disch := decide +kernel) only [go_sem, ↓reduceIte, Nat.reduceSub, Nat.reduceAdd, Nat.reduceMul, Nat.reduceBEq, Nat.reduceLT, Nat.reduceLeDiff, Nat.reduceEqDiff, reduceCtorEq, Int.reduceToNat, Int.reduceLE, Int.reduceLT, Int.reduceBEq, Int.reduceBNe, mCall, hc, hcc, hl2', cells_enc, cel3, (enc_eq a).symm]
end Go.Proofs.Ytmemmdfjlhamfaa
/- Arguments of a law: declarations, as they are read. -/
set_option linter.unusedVariables false
set_option linter.unusedSimpArgs false
namespace Go.Proofs.Ytmemmdfjlhamfaa
open Go.Proofs Go.ChangeShapes
def dsum (l : List Dc) : Nat := (l.map fun d => d.t.size).sum + l.length
theorem dsum_len {l : List Dc} : l.length ≤ dsum l := by unfold dsum; omega
theorem dsum_mem {l : List Dc} {d : Dc} (h : d ∈ l) : d.t.size ≤ dsum l := by
  unfold dsum
  have := sum_mem (List.mem_map_of_mem (f := fun d : Dc => d.t.size) h)
  omega
section
variable {H : Type} {enc' : TypeId × Value → H} {W : World} {held : Bool}
theorem decl_read {fuel : Nat} {cs : List Value} {x : DataW H × List MemPlace} (h : DataW.trod enc' Try.prog W 0 (fun _ => true) held fuel 76 cs = some x) : ∃ d : Dc, dv x.1 = encD d ∧ Wf d.t ∧ d.t.size + 1 ≤ Rows.uptoBulk x.1 := by
  obtain ⟨xs, n, hn, rfl, hl, hxl, hg⟩ := DataW.trod_struct Try.underlying76 h
  obtain ⟨a, b, rfl⟩ : ∃ a b, xs = [a, b] := by
    match xs, hxl with
    | [a, b], _ => exact ⟨a, b, rfl⟩
  have h0 := hg 0 _ rfl
  have h1 := hg 1 _ rfl
  simp only [List.getElem?_cons_zero, List.getElem?_cons_succ] at h0 h1
  obtain ⟨s, _, rfl, _⟩ := DataW.trod_string Try.underlying9 h0
  obtain ⟨t, t1, t2, t3⟩ := tm_read _ _ _ h1
  refine ⟨⟨s, t⟩, ?_, t2, ?_⟩
  · simp only [List.map_cons, List.map_nil, dv, dcs, t1, Dv.cells, enc_cells, List.cons_append, List.nil_append, List.append_nil, encD]
    rw [enc_eq]
  · simp only [List.map_cons, List.map_nil, Rows.uptoBulk, Rows.uptoBulkAll]
    omega
theorem decl_arg {v : Value} {d : DataW H} {ps : List MemPlace} (h : DataW.Trod enc' Try.prog W 0 (fun _ => true) held 76 v d ps) : ∃ t : Dc, dv d = encD t ∧ Wf t.t ∧ t.t.size + 1 ≤ Rows.uptoBulk d := by
  obtain ⟨fuel, h⟩ := h
  exact decl_read h
theorem decls_arg {v : Value} {d : DataW H} {ps : List MemPlace} (h : DataW.Trod enc' Try.prog W 0 (fun _ => true) held 48 v d ps) : ∃ l : List Dc, dv d = .slc (encDs l) ∧ (∀ t ∈ l, Wf t.t) ∧ dsum l + 1 ≤ Rows.uptoBulk d := by
  obtain ⟨fuel, h⟩ := h
  rcases DataW.trod_slice Try.underlying48 h with ⟨_, hx⟩ | ⟨a, len, cap, elems, rest, n, hn, _, hx, _, hlc, _, hel, hget, _, _⟩
  · obtain rfl : d = .nil := congrArg Prod.fst hx
    exact ⟨[], rfl, by simp, by simp [Rows.uptoBulk, dsum]⟩
  · obtain rfl : d = _ := congrArg Prod.fst hx
    obtain ⟨l, h1, h2⟩ := list_of (P := fun (y : DataW H × List MemPlace) (t : Dc) => dv y.1 = encD t ∧ Wf t.t ∧ t.t.size + 1 ≤ Rows.uptoBulk y.1) elems fun y hy => by
      obtain ⟨i, hi⟩ := List.mem_iff_getElem?.1 hy
      have hlt := (List.getElem?_eq_some_iff.1 hi).1
      have := hget i (by omega)
      rw [hi] at this
      obtain ⟨cs, _, hx⟩ := Option.bind_eq_some_iff.1 this
      exact decl_read hx
    have key : ∀ (es : List (DataW H × List MemPlace)) (l : List Dc), l.length = es.length → (∀ (i : Nat) y t, es[i]? = some y → l[i]? = some t → dv y.1 = encD t ∧ Wf t.t ∧ t.t.size + 1 ≤ Rows.uptoBulk y.1) →
        dvs (es.map (·.1)) = encDs l ∧ (∀ t ∈ l, Wf t.t) ∧ dsum l ≤ Rows.uptoBulkAll (es.map (·.1)) := by
      intro es
      induction es with
      | nil =>
        intro l hl _
        obtain rfl : l = [] := List.eq_nil_of_length_eq_zero (by simpa using hl)
        exact ⟨rfl, by simp, by simp [dsum]⟩
      | cons y es ih =>
        intro l hl hp
        cases l with
        | nil => simp at hl
        | cons t l =>
          obtain ⟨k1, k2, k3⟩ := hp 0 y t rfl rfl
          obtain ⟨j1, j2, j3⟩ := ih l (by simpa using hl) fun i a b ha hb => hp (i + 1) a b (by simpa using ha) (by simpa using hb)
          refine ⟨?_, fun x hx => ?_, ?_⟩
          · simp only [List.map_cons, dvs, k1, j1]; rfl
          · rcases List.mem_cons.1 hx with rfl | hx
            · exact k2
            · exact j2 x hx
          · unfold dsum at j3 ⊢
            simp only [List.map_cons, List.sum_cons, Rows.uptoBulkAll, List.length_cons]
            omega
    obtain ⟨k1, k2, k3⟩ := key elems l h1 h2
    refine ⟨l, by simp only [dv, k1], k2, ?_⟩
    simp only [Rows.uptoBulk]
    omega
end
end Go.Proofs.Ytmemmdfjlhamfaa
/- Arguments of a law: metas, as they are read. -/
set_option linter.unusedVariables false
set_option linter.unusedSimpArgs false
namespace Go.Proofs.Ytmemmdfjlhamfaa
open Go.Proofs Go.ChangeShapes
def WfM (d : Md) : Prop := Wf d.t ∧ ∀ x ∈ d.ctx, Wf x
def mdsz (d : Md) : Nat := d.t.size + (d.ctx.map Tm.size).sum + 1
def msum (l : List Md) : Nat := (l.map mdsz).sum
section
variable {H : Type} {enc' : TypeId × Value → H} {W : World} {held : Bool}
theorem meta_read {fuel : Nat} {cs : List Value} {x : DataW H × List MemPlace} (h : DataW.trod enc' Try.prog W 0 (fun _ => true) held fuel 79 cs = some x) : ∃ d : Md, dv x.1 = encM d ∧ WfM d ∧ mdsz d ≤ Rows.uptoBulk x.1 := by
  obtain ⟨xs, n, hn, rfl, hl, hxl, hg⟩ := DataW.trod_struct Try.underlying79 h
  obtain ⟨a, b, c, rfl⟩ : ∃ a b c, xs = [a, b, c] := by
    match xs, hxl with
    | [a, b, c], _ => exact ⟨a, b, c, rfl⟩
  have h0 := hg 0 _ rfl
  have h1 := hg 1 _ rfl
  have h2 := hg 2 _ rfl
  simp only [List.getElem?_cons_zero, List.getElem?_cons_succ] at h0 h1 h2
  obtain ⟨l, l1, l2, l3⟩ := tms_read (fuel := n) (fun m _ => tm_read m) h0
  obtain ⟨t, t1, t2, t3⟩ := tm_read _ _ _ h1
  obtain ⟨p, _, hp⟩ := DataW.trod_bool Try.underlying4 h2
  subst hp
  refine ⟨⟨l, t, p⟩, ?_, ⟨t2, l2⟩, ?_⟩
  · simp only [List.map_cons, List.map_nil, dv, dcs, l1, t1, Dv.cells, enc_cells, List.cons_append, List.nil_append, List.append_nil, encM]
    rw [enc_eq]
    rfl
  · simp only [List.map_cons, List.map_nil, Rows.uptoBulk, Rows.uptoBulkAll, mdsz]
    omega
theorem meta_arg {v : Value} {d : DataW H} {ps : List MemPlace} (h : DataW.Trod enc' Try.prog W 0 (fun _ => true) held 79 v d ps) : ∃ t : Md, dv d = encM t ∧ WfM t ∧ mdsz t ≤ Rows.uptoBulk d := by
  obtain ⟨fuel, h⟩ := h
  exact meta_read h
theorem metas_arg {v : Value} {d : DataW H} {ps : List MemPlace} (h : DataW.Trod enc' Try.prog W 0 (fun _ => true) held 49 v d ps) : ∃ l : List Md, dv d = .slc (encMs l) ∧ (∀ t ∈ l, WfM t) ∧ msum l + 1 ≤ Rows.uptoBulk d := by
  obtain ⟨fuel, h⟩ := h
  rcases DataW.trod_slice Try.underlying49 h with ⟨_, hx⟩ | ⟨a, len, cap, elems, rest, n, hn, _, hx, _, hlc, _, hel, hget, _, _⟩
  · obtain rfl : d = .nil := congrArg Prod.fst hx
    exact ⟨[], rfl, by simp, by simp [Rows.uptoBulk, msum]⟩
  · obtain rfl : d = _ := congrArg Prod.fst hx
    obtain ⟨l, h1, h2⟩ := list_of (P := fun (y : DataW H × List MemPlace) (t : Md) => dv y.1 = encM t ∧ WfM t ∧ mdsz t ≤ Rows.uptoBulk y.1) elems fun y hy => by
      obtain ⟨i, hi⟩ := List.mem_iff_getElem?.1 hy
      have hlt := (List.getElem?_eq_some_iff.1 hi).1
      have := hget i (by omega)
      rw [hi] at this
      obtain ⟨cs, _, hx⟩ := Option.bind_eq_some_iff.1 this
      exact meta_read hx
    have key : ∀ (es : List (DataW H × List MemPlace)) (l : List Md), l.length = es.length → (∀ (i : Nat) y t, es[i]? = some y → l[i]? = some t → dv y.1 = encM t ∧ WfM t ∧ mdsz t ≤ Rows.uptoBulk y.1) →
        dvs (es.map (·.1)) = encMs l ∧ (∀ t ∈ l, WfM t) ∧ msum l ≤ Rows.uptoBulkAll (es.map (·.1)) := by
      intro es
      induction es with
      | nil =>
        intro l hl _
        obtain rfl : l = [] := List.eq_nil_of_length_eq_zero (by simpa using hl)
        exact ⟨rfl, by simp, by simp [msum]⟩
      | cons y es ih =>
        intro l hl hp
        cases l with
        | nil => simp at hl
        | cons t l =>
          obtain ⟨k1, k2, k3⟩ := hp 0 y t rfl rfl
          obtain ⟨j1, j2, j3⟩ := ih l (by simpa using hl) fun i a b ha hb => hp (i + 1) a b (by simpa using ha) (by simpa using hb)
          refine ⟨?_, fun x hx => ?_, ?_⟩
          · simp only [List.map_cons, dvs, k1, j1]; rfl
          · rcases List.mem_cons.1 hx with rfl | hx
            · exact k2
            · exact j2 x hx
          · unfold msum at j3 ⊢
            simp only [List.map_cons, List.sum_cons, Rows.uptoBulkAll]
            omega
    obtain ⟨k1, k2, k3⟩ := key elems l h1 h2
    refine ⟨l, by simp only [dv, k1], k2, ?_⟩
    simp only [Rows.uptoBulk]
    omega
end
theorem msum_mem {l : List Md} {d : Md} (h : d ∈ l) : mdsz d ≤ msum l := sum_mem (List.mem_map_of_mem h)
theorem msum_len : ∀ l : List Md, l.length ≤ msum l
  | [] => Nat.zero_le _
  | d :: l => by
    have := msum_len l
    unfold msum at this ⊢
    simp only [List.map_cons, List.sum_cons, List.length_cons, mdsz] at this ⊢
    omega
end Go.Proofs.Ytmemmdfjlhamfaa
/- Laws of layer 10: CheckTerms, CheckTypes. -/
set_option linter.unusedSimpArgs false
set_option linter.unusedVariables false
set_option maxRecDepth 100000
namespace Go.Proofs.Ytmemmdfjlhamfaa
open Go.Proofs
theorem tms_room {l : List Tm} (hs : (l.map Tm.size).sum + 1 ≤ 1048576) : l.length < room ∧ ∀ x ∈ l, x.size < room := lists_room hs
theorem wsz_of {sg : List Dc} {ms : List Md} {cx : List Tm} (h1 : dsum sg + 1 ≤ 1048576) (h2 : msum ms + 1 ≤ 1048576) (h3 : (cx.map Tm.size).sum + 1 ≤ 1048576) : WSz ⟨sg, ms, cx⟩ := by
  have hr : room = 1099511627776 := rfl
  obtain ⟨c1, c2⟩ := lists_room h3
  have d1 := dsum_len (l := sg)
  have m1 := msum_len ms
  refine ⟨c1, c2, by show sg.length < room; omega, fun d hd => by have := dsum_mem (l := sg) hd; omega, by show ms.length < room; omega, fun d hd => ?_⟩
  have hm := msum_mem (l := ms) hd
  unfold mdsz at hm
  obtain ⟨e1, e2⟩ := lists_room (l := d.ctx) (by omega)
  exact ⟨by omega, e1, e2⟩
abbrev lowK : Int := 1099511627776
theorem light_vle {t : Tm} {s d : Int} (h : lightB t s d = true) : vleB lowK t = true := by
  unfold lightB at h
  simp only [Bool.and_eq_true] at h
  exact vle_low h.1.1
theorem fewB_parts {sg : List Dc} (h : fewB sg = true) : sg.length ≤ 30 ∧ ∀ d ∈ sg, lightB d.t 1000 80 = true := by
  unfold fewB at h
  simp only [Bool.and_eq_true, decide_eq_true_eq, allB_iff] at h
  refine ⟨h.1, fun d hd => ?_⟩
  obtain ⟨i, hi, rfl⟩ := List.mem_iff_getElem.1 hd
  have := h.2 i hi
  rwa [show Dcs.at sg i = sg[i] by simp [Dcs.at, List.getD, List.getElem?_eq_getElem hi]] at this
theorem fewW_parts {w : Wo} (h : fewW w = true) : (w.sig.length ≤ 30 ∧ ∀ d ∈ w.sig, lightB d.t 1000 80 = true) ∧ (w.metas.length ≤ 30 ∧ ∀ d ∈ w.metas, mdLight d = true) ∧ w.ctx.length ≤ 60 ∧ ∀ x ∈ w.ctx, lightB x 500 80 = true := by
  unfold fewW at h
  simp only [Bool.and_eq_true, Bool.not_eq_true', decide_eq_false_iff_not, allB_iff] at h
  obtain ⟨⟨⟨h1, h2⟩, h3⟩, h4⟩ := h
  refine ⟨fewB_parts h1, ⟨by omega, fun d hd => ?_⟩, lights_parts h4⟩
  obtain ⟨i, hi, rfl⟩ := List.mem_iff_getElem.1 hd
  have := h3 i hi
  rwa [show w.metas.getD i default = w.metas[i] by simp [List.getD, List.getElem?_eq_getElem hi]] at this
theorem few_in {w : Wo} (hz : WSz w) (h : fewW w = true) : WIn lowK w := by
  have htv : topV = 1125899906842624 := rfl
  obtain ⟨⟨_, h1⟩, ⟨_, h2⟩, _, h3⟩ := fewW_parts h
  refine ⟨hz, by decide, by rw [htv]; decide, fun x hx => light_vle (h3 x hx), fun d hd => light_vle (h1 d hd), fun d hd => ?_⟩
  have := h2 d hd
  unfold mdLight at this
  rw [Bool.and_eq_true] at this
  exact ⟨light_vle this.2, fun x hx => light_vle ((lights_parts this.1).2 x hx)⟩
theorem size_room {t : Tm} (h : t.size ≤ 1048576) : t.size < room := by
  have hr : room = 1099511627776 := rfl
  omega
theorem checkTerms_holds (sg : List Dc) (wsg : ∀ t ∈ sg, Wf t.t) (hsg : dsum sg + 1 ≤ 1048576) (ms : List Md) (wms : ∀ t ∈ ms, WfM t) (hms : msum ms + 1 ≤ 1048576) (cx : List Tm) (wcx : ∀ t ∈ cx, Wf t) (hcx : (cx.map Tm.size).sum + 1 ≤ 1048576)
    (m : Tm) (wm : Wf m) (hm : m.size ≤ 1048576) (a : Tm) (wa : Wf a) (ha : a.size ≤ 1048576) : ∃ h, (lim C).call 9 [dDs sg, dMs ms, dL cx, dT m, dT a] [] = some (.ret (dB true), h) := by
  have hA := awake10_spec
  have hw := wsz_of hsg hms hcx
  have hF := fewW_spec ⟨sg, ms, cx⟩ hw
  have hF : (lim C).call 37 [dDs sg, dMs ms, dL cx] [] = _ := hF
  have zm := size_room hm
  have za := size_room ha
  have hp := light_spec m 500 80 zm
  have hq := light_spec a 500 80 za
  have hem := (enc_eq m).symm
  have hea := (enc_eq a).symm
  refine ⟨[], ?_⟩
  rw [ev_fn 9 Try.f9 _ _ _ rfl Try.func9 rfl Try.ntmps9 rfl]
  cases k1 : fewW ⟨sg, ms, cx⟩
  · simp -implicitDefEqProofs (disch := decide +kernel) only [go_sem, ↓reduceIte, Nat.reduceSub, Nat.reduceAdd, Nat.reduceMul, Nat.reduceBEq, Nat.reduceLT, Nat.reduceLeDiff, Nat.reduceEqDiff, reduceCtorEq, Int.reduceToNat, Int.reduceLE, Int.reduceLT, Int.reduceBEq, Int.reduceBNe, mCall, hA, hF, hp, hq, cells_enc, cel3, hem, hea, k1]
  · skip
    cases k2 : lightB m 500 80
    · simp -implicitDefEqProofs (disch := decide +kernel) only [go_sem, ↓reduceIte, Nat.reduceSub, Nat.reduceAdd, Nat.reduceMul, Nat.reduceBEq, Nat.reduceLT, Nat.reduceLeDiff, Nat.reduceEqDiff, reduceCtorEq, Int.reduceToNat, Int.reduceLE, Int.reduceLT, Int.reduceBEq, Int.reduceBNe, mCall, hA, hF, hp, hq, cells_enc, cel3, hem, hea, k1, k2]
    · skip
      cases k3 : lightB a 500 80
      · simp -implicitDefEqProofs (disch := decide +kernel) only [go_sem, ↓reduceIte, Nat.reduceSub, Nat.reduceAdd, Nat.reduceMul, Nat.reduceBEq, Nat.reduceLT, Nat.reduceLeDiff, Nat.reduceEqDiff, reduceCtorEq, Int.reduceToNat, Int.reduceLE, Int.reduceLT, Int.reduceBEq, Int.reduceBNe, mCall, hA, hF, hp, hq, cells_enc, cel3, hem, hea, k1, k2, k3]
      · skip
        have hin := few_in hw k1
        obtain ⟨h1, c1⟩ := cTerm_spec hin m a zm (light_vle k2) za (light_vle k3)
        obtain ⟨h2, c2⟩ := rTerm_spec hin m a zm (light_vle k2) za (light_vle k3)
        have c1 : (lim C).call 38 [dDs sg, dMs ms, dL cx, dT m, dT a] [] = _ := c1
        have c2 : (lim C).call 39 [dDs sg, dMs ms, dL cx, dT m, dT a] [] = _ := c2
        generalize TermR (Wo.wd ⟨sg, ms, cx⟩) (Wo.ctx ⟨sg, ms, cx⟩) m a = r at c1 c2
        have hrr : (r == r) = true := by simp
        simp -implicitDefEqProofs (disch := decide +kernel) only [go_sem, ↓reduceIte, Nat.reduceSub, Nat.reduceAdd, Nat.reduceMul, Nat.reduceBEq, Nat.reduceLT, Nat.reduceLeDiff, Nat.reduceEqDiff, reduceCtorEq, Int.reduceToNat, Int.reduceLE, Int.reduceLT, Int.reduceBEq, Int.reduceBNe, mCall, hA, hF, hp, hq, cells_enc, cel3, hem, hea, k1, k2, k3, c1, c2, hrr]
theorem checkTypes_holds (sg : List Dc) (wsg : ∀ t ∈ sg, Wf t.t) (hsg : dsum sg + 1 ≤ 1048576) (ms : List Md) (wms : ∀ t ∈ ms, WfM t) (hms : msum ms + 1 ≤ 1048576) (cx : List Tm) (wcx : ∀ t ∈ cx, Wf t) (hcx : (cx.map Tm.size).sum + 1 ≤ 1048576)
    (a : Tm) (wa : Wf a) (ha : a.size ≤ 1048576) : ∃ h, (lim C).call 14 [dDs sg, dMs ms, dL cx, dT a] [] = some (.ret (dB true), h) := by
  have hA := awake10_spec
  have hw := wsz_of hsg hms hcx
  have hF := fewW_spec ⟨sg, ms, cx⟩ hw
  have hF : (lim C).call 37 [dDs sg, dMs ms, dL cx] [] = _ := hF
  have za := size_room ha
  have hq := light_spec a 500 80 za
  have hea := (enc_eq a).symm
  refine ⟨[], ?_⟩
  rw [ev_fn 14 Try.f14 _ _ _ rfl Try.func14 rfl Try.ntmps14 rfl]
  cases k1 : fewW ⟨sg, ms, cx⟩
  · simp -implicitDefEqProofs (disch := decide +kernel) only [go_sem, ↓reduceIte, Nat.reduceSub, Nat.reduceAdd, Nat.reduceMul, Nat.reduceBEq, Nat.reduceLT, Nat.reduceLeDiff, Nat.reduceEqDiff, reduceCtorEq, Int.reduceToNat, Int.reduceLE, Int.reduceLT, Int.reduceBEq, Int.reduceBNe, mCall, hA, hF, hq, cells_enc, cel3, hea, k1]
  · skip
    cases k3 : lightB a 500 80
    · simp -implicitDefEqProofs (disch := decide +kernel) only [go_sem, ↓reduceIte, Nat.reduceSub, Nat.reduceAdd, Nat.reduceMul, Nat.reduceBEq, Nat.reduceLT, Nat.reduceLeDiff, Nat.reduceEqDiff, reduceCtorEq, Int.reduceToNat, Int.reduceLE, Int.reduceLT, Int.reduceBEq, Int.reduceBNe, mCall, hA, hF, hq, cells_enc, cel3, hea, k1, k3]
    · skip
      have hin := few_in hw k1
      obtain ⟨h1, c1⟩ := cType_spec hin a za (light_vle k3)
      obtain ⟨h2, c2⟩ := rType_spec hin a za (light_vle k3)
      obtain ⟨h3, c3⟩ := cKind_spec hin a za (light_vle k3)
      obtain ⟨h4, c4⟩ := rKind_spec hin a za (light_vle k3)
      have c1 : (lim C).call 40 [dDs sg, dMs ms, dL cx, dT a] [] = _ := c1
      have c2 : (lim C).call 41 [dDs sg, dMs ms, dL cx, dT a] [] = _ := c2
      have c3 : (lim C).call 42 [dDs sg, dMs ms, dL cx, dT a] [] = _ := c3
      have c4 : (lim C).call 43 [dDs sg, dMs ms, dL cx, dT a] [] = _ := c4
      generalize TypR (Wo.wd ⟨sg, ms, cx⟩) (Wo.ctx ⟨sg, ms, cx⟩) a = r at c1 c2
      generalize KindR (Wo.wd ⟨sg, ms, cx⟩) (Wo.ctx ⟨sg, ms, cx⟩) a = r' at c3 c4
      have hrr : (r == r) = true := by simp
      have hrr' : (r' == r') = true := by simp
      simp -implicitDefEqProofs (disch := decide +kernel) only [go_sem, ↓reduceIte, Nat.reduceSub, Nat.reduceAdd, Nat.reduceMul, Nat.reduceBEq, Nat.reduceLT, Nat.reduceLeDiff, Nat.reduceEqDiff, reduceCtorEq, Int.reduceToNat, Int.reduceLE, Int.reduceLT, Int.reduceBEq, Int.reduceBNe, mCall, hA, hF, hq, cells_enc, cel3, hea, k1, k3, c1, c2, c3, c4, hrr, hrr']
end Go.Proofs.Ytmemmdfjlhamfaa
