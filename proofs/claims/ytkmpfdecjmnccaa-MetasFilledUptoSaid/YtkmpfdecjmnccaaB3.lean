/- The package check: may, with, declared. -/
import Derived.Test.YtkmpfdecjmnccaaB2
set_option linter.unusedSimpArgs false
set_option linter.unusedVariables false
set_option maxRecDepth 100000
namespace Go.Proofs.Ytkmpfdecjmnccaa
open Go.Proofs
abbrev oddF : AV := .fn 52 [] []
def oddH : List HO := [.var 0 [oddF]]
theorem codd_spec (t : Tm) (hs : t.size < room) : (lim C).call 52 [dT t] [] = retB (!mayB t) := by
  rw [ev_fn 52 Try.f52 _ _ _ rfl Try.func52 rfl Try.ntmps52 rfl]
  simp -implicitDefEqProofs (disch := decide +kernel) only [go_sem, ↓reduceIte, Nat.reduceSub, Nat.reduceAdd, Nat.reduceMul, Nat.reduceBEq, Nat.reduceLT, Nat.reduceLeDiff, Nat.reduceEqDiff, reduceCtorEq, Int.reduceToNat, Int.reduceLE, Int.reduceLT, Int.reduceBEq, Int.reduceBNe, mCall, tMay_spec t hs, cells_enc, cel3, (enc_eq t).symm]
theorem codds_spec {l : List Tm} (hl : l.length < room) (hz : ∀ x ∈ l, x.size < room) : (lim C).call 45 [dL l, oddF] [] = retB (!maysB l) :=
  contains_spec (by decide +kernel) hl fun x hx => ⟨_, codd_spec x (hz x hx)⟩
theorem cmay3_spec (d : Dc) (hs : d.t.size < room) : (lim C).call 56 [dDc d, .href 0 0] oddH = some (.ret (dB (!mayB d.t)), oddH) := by
  rw [ev_fn 56 Try.f56 _ _ _ rfl Try.func56 rfl Try.ntmps56 rfl]
  simp -implicitDefEqProofs (disch := decide +kernel) only [go_sem, ↓reduceIte, Nat.reduceSub, Nat.reduceAdd, Nat.reduceMul, Nat.reduceBEq, Nat.reduceLT, Nat.reduceLeDiff, Nat.reduceEqDiff, reduceCtorEq, Int.reduceToNat, Int.reduceLE, Int.reduceLT, Int.reduceBEq, Int.reduceBNe, mCall, codd_spec d.t hs, oddH, cells_encD, cel3, (enc_eq d.t).symm]
theorem cmay2_spec (d : Md) (hs : d.t.size < room) (hl : d.ctx.length < room) (hz : ∀ x ∈ d.ctx, x.size < room) : (lim C).call 54 [dM d, .href 0 0] oddH = some (.ret (dB (!(mayB d.t && maysB d.ctx))), oddH) := by
  rw [ev_fn 54 Try.f54 _ _ _ rfl Try.func54 rfl Try.ntmps54 rfl]
  cases h : mayB d.t
  · simp -implicitDefEqProofs (disch := decide +kernel) only [go_sem, ↓reduceIte, Nat.reduceSub, Nat.reduceAdd, Nat.reduceMul, Nat.reduceBEq, Nat.reduceLT, Nat.reduceLeDiff, Nat.reduceEqDiff, reduceCtorEq, Int.reduceToNat, Int.reduceLE, Int.reduceLT, Int.reduceBEq, Int.reduceBNe, mCall, codd_spec d.t hs, oddH, h, cells_encM, cel3, (enc_eq d.t).symm]
  · simp -implicitDefEqProofs (disch := decide +kernel) only [go_sem, ↓reduceIte, Nat.reduceSub, Nat.reduceAdd, Nat.reduceMul, Nat.reduceBEq, Nat.reduceLT, Nat.reduceLeDiff, Nat.reduceEqDiff, reduceCtorEq, Int.reduceToNat, Int.reduceLE, Int.reduceLT, Int.reduceBEq, Int.reduceBNe, mCall, codd_spec d.t hs, oddH, h, codds_spec hl hz, cells_encM, cel3, (enc_eq d.t).symm]
structure WSz (w : Wo) : Prop where
  cl : w.ctx.length < room
  cz : ∀ x ∈ w.ctx, x.size < room
  sl : w.sig.length < room
  sz : ∀ d ∈ w.sig, d.t.size < room
  ml : w.metas.length < room
  mz : ∀ d ∈ w.metas, d.t.size < room ∧ d.ctx.length < room ∧ ∀ x ∈ d.ctx, x.size < room
theorem getD_of_get {α : Type} [Inhabited α] {l : List α} {i : Nat} {x : α} (h : l[i]? = some x) : i < l.length ∧ l.getD i default = x := by
  have := (List.getElem?_eq_some_iff.1 h).1
  exact ⟨this, by simp [List.getD, h]⟩
theorem getD_sig {l : List Dc} {i : Nat} (h : i < l.length) : (l.map Dc.t).getD i default = (Dcs.at l i).t := by
  simp [Dcs.at, List.getD, List.getElem?_eq_getElem h]
theorem mayW_eq (w : Wo) (l : List Tm) : mayW w.wd w.ctx l = (!decide ((w.ctx.length : Int) > 1000) && maysB l && maysB w.ctx && allB w.sig.length (fun i => mayB (Dcs.at w.sig i).t) && allB w.metas.length (fun i => mayB (w.metas.getD i default).t && maysB (w.metas.getD i default).ctx)) := by
  unfold mayW
  have h1 : maysB w.wd.sig = allB w.sig.length (fun i => mayB (Dcs.at w.sig i).t) := by
    unfold maysB Wo.wd
    simp only [List.length_map]
    exact allB_congr fun i hi => by rw [getD_sig hi]
  have h2 : allB w.wd.metas.length (fun i => mdMay (w.wd.metas.getD i default)) = allB w.metas.length (fun i => mayB (w.metas.getD i default).t && maysB (w.metas.getD i default).ctx) := by
    unfold Wo.wd
    exact allB_congr fun i hi => by unfold mdMay; rw [Bool.and_comm]
  rw [h1, h2]
theorem cmay_spec (w : Wo) (l : List Tm) (hw : WSz w) (hl : l.length < room) (hz : ∀ x ∈ l, x.size < room) : ∃ h, (lim C).call 37 [dW w, dL l] [] = some (.ret (dB (mayW w.wd w.ctx l)), h) := by
  have hD : AsksE 56 [.href 0 0] oddH (encDs w.sig) fun i => mayB (Dcs.at w.sig i).t := by
    intro i x hx locs toks
    rw [encDs_get] at hx
    obtain ⟨d, hd, rfl⟩ := Option.map_eq_some_iff.1 hx
    obtain ⟨h1, h2⟩ := getD_of_get hd
    have hc := cmay3_spec d (hw.sz d (List.mem_of_getElem? hd))
    have h3 : Dcs.at w.sig i = d := h2
    simp only [mCall, callsPure, pureL, AV.pure, okL, AV.okA, C_thr, eraseL, AV.erase, Bool.and_true, Bool.true_and, Bool.and_false, Bool.false_and, Bool.false_eq_true, if_false, if_true, Option.bind_some, heapRes_ret, hc, h3]
  have hM : AsksE 54 [.href 0 0] oddH (encMs w.metas) fun i => mayB (w.metas.getD i default).t && maysB (w.metas.getD i default).ctx := by
    intro i x hx locs toks
    rw [encMs_get] at hx
    obtain ⟨d, hd, rfl⟩ := Option.map_eq_some_iff.1 hx
    obtain ⟨h1, h2⟩ := getD_of_get hd
    obtain ⟨z1, z2, z3⟩ := hw.mz d (List.mem_of_getElem? hd)
    have hc := cmay2_spec d z1 z2 z3
    simp only [mCall, callsPure, pureL, AV.pure, okL, AV.okA, C_thr, eraseL, AV.erase, Bool.and_true, Bool.true_and, Bool.and_false, Bool.false_and, Bool.false_eq_true, if_false, if_true, Option.bind_some, heapRes_ret, hc, h2]
  have h3 := ctD_spec hD hw.sl rfl rfl rfl
  have h4 := ctM_spec hM hw.ml rfl rfl rfl
  have h1 := codds_spec hl hz
  have h2 := codds_spec hw.cl hw.cz
  refine ⟨oddH, ?_⟩
  rw [mayW_eq]
  simp only [oddH] at h3 h4 ⊢
  rw [ev_fn 37 Try.f37 _ _ _ rfl Try.func37 rfl Try.ntmps37 rfl]
  cases k1 : decide ((w.ctx.length : Int) > 1000)
  rotate_left
  · simp -implicitDefEqProofs (disch := decide +kernel) only [go_sem, ↓reduceIte, Nat.reduceSub, Nat.reduceAdd, Nat.reduceMul, Nat.reduceBEq, Nat.reduceLT, Nat.reduceLeDiff, Nat.reduceEqDiff, reduceCtorEq, Int.reduceToNat, Int.reduceLE, Int.reduceLT, Int.reduceBEq, Int.reduceBNe, mCall, h1, h2, h3, h4, cells_encW, celW, k1]
  cases k2 : maysB l
  · simp -implicitDefEqProofs (disch := decide +kernel) only [go_sem, ↓reduceIte, Nat.reduceSub, Nat.reduceAdd, Nat.reduceMul, Nat.reduceBEq, Nat.reduceLT, Nat.reduceLeDiff, Nat.reduceEqDiff, reduceCtorEq, Int.reduceToNat, Int.reduceLE, Int.reduceLT, Int.reduceBEq, Int.reduceBNe, mCall, h1, h2, h3, h4, cells_encW, celW, k1, k2]
  · skip
    cases k3 : maysB w.ctx
    · simp -implicitDefEqProofs (disch := decide +kernel) only [go_sem, ↓reduceIte, Nat.reduceSub, Nat.reduceAdd, Nat.reduceMul, Nat.reduceBEq, Nat.reduceLT, Nat.reduceLeDiff, Nat.reduceEqDiff, reduceCtorEq, Int.reduceToNat, Int.reduceLE, Int.reduceLT, Int.reduceBEq, Int.reduceBNe, mCall, h1, h2, h3, h4, cells_encW, celW, k1, k2, k3]
    · skip
      cases k4 : allB w.sig.length (fun i => mayB (Dcs.at w.sig i).t)
      · simp -implicitDefEqProofs (disch := decide +kernel) only [go_sem, ↓reduceIte, Nat.reduceSub, Nat.reduceAdd, Nat.reduceMul, Nat.reduceBEq, Nat.reduceLT, Nat.reduceLeDiff, Nat.reduceEqDiff, reduceCtorEq, Int.reduceToNat, Int.reduceLE, Int.reduceLT, Int.reduceBEq, Int.reduceBNe, mCall, h1, h2, h3, h4, cells_encW, celW, k1, k2, k3, k4]
      · skip
        cases k5 : allB w.metas.length (fun i => mayB (w.metas.getD i default).t && maysB (w.metas.getD i default).ctx)
        · simp -implicitDefEqProofs (disch := decide +kernel) only [go_sem, ↓reduceIte, Nat.reduceSub, Nat.reduceAdd, Nat.reduceMul, Nat.reduceBEq, Nat.reduceLT, Nat.reduceLeDiff, Nat.reduceEqDiff, reduceCtorEq, Int.reduceToNat, Int.reduceLE, Int.reduceLT, Int.reduceBEq, Int.reduceBNe, mCall, h1, h2, h3, h4, cells_encW, celW, k1, k2, k3, k4, k5]
        · skip
          simp -implicitDefEqProofs (disch := decide +kernel) only [go_sem, ↓reduceIte, Nat.reduceSub, Nat.reduceAdd, Nat.reduceMul, Nat.reduceBEq, Nat.reduceLT, Nat.reduceLeDiff, Nat.reduceEqDiff, reduceCtorEq, Int.reduceToNat, Int.reduceLE, Int.reduceLT, Int.reduceBEq, Int.reduceBNe, mCall, h1, h2, h3, h4, cells_encW, celW, k1, k2, k3, k4, k5]
def Wo.with (w : Wo) (a : Tm) : Wo := { w with ctx := w.ctx ++ [a] }
theorem cwith_spec (w : Wo) (a : Tm) (hl : w.ctx.length < room) : (lim C).call 61 [dW w, dT a] [] = some (.ret (dW (w.with a)), []) := by
  have ha := fun locs heap => mApp_clip (encs w.ctx) (enc a) 3 locs heap (by rw [encs_length]; exact hl) (encs_all _) (enc_width _)
  have hz : encs w.ctx ++ [enc a] = encs (w.ctx ++ [a]) := by rw [encs_append]; rfl
  rw [hz] at ha
  have ht : (encs w.ctx).take w.ctx.length = encs w.ctx := by rw [← encs_length, List.take_length]
  have hw : Dv.agg [.slc (encDs w.sig), .slc (encMs w.metas), .slc (encs (w.ctx ++ [a]))] = encW (w.with a) := rfl
  rw [ev_fn 61 Try.f61 _ _ _ rfl Try.func61 rfl Try.ntmps61 rfl]
  simp -implicitDefEqProofs (disch := decide +kernel) only [go_sem, ↓reduceIte, Nat.reduceSub, Nat.reduceAdd, Nat.reduceMul, Nat.reduceBEq, Nat.reduceLT, Nat.reduceLeDiff, Nat.reduceEqDiff, reduceCtorEq, Int.reduceToNat, Int.reduceLE, Int.reduceLT, Int.reduceBEq, Int.reduceBNe, mCall, ha, ht, encs_all, Nat.zero_le, cells_encW, celW, cells_enc, cel3, (enc_eq a).symm, hw]
theorem cdecl_spec (w : Wo) (h : Int) (k : Bool) (h0 : 0 ≤ h) : (lim C).call 59 [dW w, dI h, dB k] [] = some (.ret (.tup [dT (declW w.wd h k).1, dI (declW w.wd h k).2]), []) := by
  have hz := zT_enc
  unfold declW
  have hlen : w.wd.sig.length = w.sig.length := by simp [Wo.wd]
  rw [hlen]
  rw [ev_fn 59 Try.f59 _ _ _ rfl Try.func59 rfl Try.ntmps59 rfl]
  cases h1 : decide (h ≥ (w.sig.length : Int))
  · have hlt : h.toNat < w.sig.length := by simp at h1; omega
    have hsk := skind_spec (Dcs.at w.sig h.toNat).t
    have hka : kindAt w.wd.sig h.toNat = ((lastOf (Dcs.at w.sig h.toNat).t).kind == 0) := by
      unfold kindAt isKind Wo.wd
      rw [getD_sig hlt]
    have hgd : w.wd.sig.getD h.toNat default = (Dcs.at w.sig h.toNat).t := getD_sig hlt
    have hge := dat_get hlt
    rw [if_neg (by simpa using h1), hka, hgd]
    cases h2 : (((lastOf (Dcs.at w.sig h.toNat).t).kind == 0) != k)
    · rw [if_neg (by simpa using h2)]
      simp -implicitDefEqProofs (disch := decide +kernel) only [go_sem, ↓reduceIte, Nat.reduceSub, Nat.reduceAdd, Nat.reduceMul, Nat.reduceBEq, Nat.reduceLT, Nat.reduceLeDiff, Nat.reduceEqDiff, reduceCtorEq, Int.reduceToNat, Int.reduceLE, Int.reduceLT, Int.reduceBEq, Int.reduceBNe, mCall, cells_encW, celW, h1, hge, h0, hsk, h2, cells_encD, (enc_eq (Dcs.at w.sig h.toNat).t).symm]
    · rw [if_pos (by simpa using h2)]
      simp -implicitDefEqProofs (disch := decide +kernel) only [go_sem, ↓reduceIte, Nat.reduceSub, Nat.reduceAdd, Nat.reduceMul, Nat.reduceBEq, Nat.reduceLT, Nat.reduceLeDiff, Nat.reduceEqDiff, reduceCtorEq, Int.reduceToNat, Int.reduceLE, Int.reduceLT, Int.reduceBEq, Int.reduceBNe, mCall, cells_encW, celW, h1, hge, h0, hsk, h2, cells_encD, (enc_eq (Dcs.at w.sig h.toNat).t).symm, hz]
  · rw [if_pos (by simpa using h1)]
    simp -implicitDefEqProofs (disch := decide +kernel) only [go_sem, ↓reduceIte, Nat.reduceSub, Nat.reduceAdd, Nat.reduceMul, Nat.reduceBEq, Nat.reduceLT, Nat.reduceLeDiff, Nat.reduceEqDiff, reduceCtorEq, Int.reduceToNat, Int.reduceLE, Int.reduceLT, Int.reduceBEq, Int.reduceBNe, mCall, cells_encW, celW, h1, hz]
theorem cnone_spec (w : Wo) (m : Tm) : (lim C).call 62 [dW w, dT m] [] = some (.ret (.tup [dT zT, dI 3]), []) := by
  have hz := zT_enc
  rw [ev_fn 62 Try.f62 _ _ _ rfl Try.func62 rfl Try.ntmps62 rfl]
  simp -implicitDefEqProofs (disch := decide +kernel) only [go_sem, ↓reduceIte, Nat.reduceSub, Nat.reduceAdd, Nat.reduceMul, Nat.reduceBEq, Nat.reduceLT, Nat.reduceLeDiff, Nat.reduceEqDiff, reduceCtorEq, Int.reduceToNat, Int.reduceLE, Int.reduceLT, Int.reduceBEq, Int.reduceBNe, mCall, hz, cells_encW, celW, cells_enc, cel3]
end Go.Proofs.Ytkmpfdecjmnccaa
/- The package check: a spine. -/
set_option linter.unusedSimpArgs false
set_option linter.unusedVariables false
set_option maxRecDepth 100000
namespace Go.Proofs.Ytkmpfdecjmnccaa
open Go.Proofs
structure WOk (K : Int) (w : Wo) (n : Nat) : Prop where
  hk : 2097152 ≤ K
  cl : w.ctx.length + n ≤ 1048576
  ctx : ∀ x ∈ w.ctx, mayB x = true ∧ vleB K x = true
  sl : w.sig.length < room
  sig : ∀ d ∈ w.sig, mayB d.t = true ∧ vleB K d.t = true
  ml : w.metas.length < room
  metas : ∀ d ∈ w.metas, (mayB d.t = true ∧ vleB K d.t = true) ∧ d.ctx.length < room ∧ ∀ x ∈ d.ctx, mayB x = true ∧ vleB K x = true
theorem WOk.h0 {K : Int} {w : Wo} {n : Nat} (h : WOk K w n) : 0 ≤ K := by have := h.hk; omega
theorem WOk.mono {K K' : Int} {w : Wo} {n n' : Nat} (h : WOk K w n) (hk : K ≤ K') (hn : n' ≤ n) : WOk K' w n' := by
  have h0 := h.hk
  have hc := h.cl
  exact ⟨by omega, by omega, fun x hx => ⟨(h.ctx x hx).1, vle_mono hk (h.ctx x hx).2⟩, h.sl, fun d hd => ⟨(h.sig d hd).1, vle_mono hk (h.sig d hd).2⟩, h.ml,
    fun d hd => ⟨⟨(h.metas d hd).1.1, vle_mono hk (h.metas d hd).1.2⟩, (h.metas d hd).2.1, fun x hx => ⟨((h.metas d hd).2.2 x hx).1, vle_mono hk ((h.metas d hd).2.2 x hx).2⟩⟩⟩
theorem WOk.with {K : Int} {w : Wo} {n : Nat} (h : WOk K w (n + 1)) {a : Tm} (h1 : mayB a = true) (h2 : vleB K a = true) : WOk K (w.with a) n := by
  have hc := h.cl
  refine ⟨h.hk, by simp [Wo.with]; omega, fun x hx => ?_, h.sl, h.sig, h.ml, h.metas⟩
  rcases List.mem_append.1 hx with hx | hx
  · exact h.ctx x hx
  · obtain rfl : x = a := by simpa using hx
    exact ⟨h1, h2⟩
theorem may_room {t : Tm} (h : mayB t = true) : t.size < room := by
  have hr : room = 1099511627776 := rfl
  have := (may_parts h).2.1
  omega
theorem may_argm {t x : Tm} (hx : x ∈ t.args) (h : mayB t = true) : mayB x = true := by
  obtain ⟨h1, h2, h3⟩ := may_parts h
  have hs := size_arg hx
  have hd := depth_arg hx
  refine may_of ?_ (by omega) (by omega)
  obtain ⟨i, hi, rfl⟩ := List.mem_iff_getElem.1 hx
  rw [arg_eq hi]
  exact node_args h1 i hi
def Tells (w : Wo) (m : Tm) (K : Int) : Prop := ∀ i, i < m.args.length → ∀ x : Tm, mayB x = true → vleB (K + 2000000 * ((i : Int) + 1)) x = true →
  ∃ h, (lim C).call 39 [dW w, dT (m.arg i), dT x] [] = some (.ret (dI (argW w.wd m i x w.ctx)), h)
abbrev argF (w : Wo) (m : Tm) (i : Nat) (x : Tm) : Int := argW w.wd m i x w.ctx
theorem scoped_vle : ∀ (t : Tm) (v M : Int), scopedB t v M = true → vleB (v + t.size) t = true := by
  intro t v M h
  unfold vleB
  have key : ∀ (t : Tm) (v n c : Int), v + t.size ≤ c → scopedB t v M = true → canB (fun x _ => decide (x ≤ c)) t n = true := by
    refine Tm.ind fun t ih v n c hc h => ?_
    rw [scoped_iff] at h
    rw [canB_iff]
    refine ⟨fun hk => ?_, fun i hi => ?_⟩
    · have := h.1 hk
      simp; omega
    · have := size_arg (arg_mem hi)
      have := bnd_le t i
      exact ih _ (arg_mem hi) _ _ c (by omega) (h.2.2 i hi)
  exact key t v 0 _ (Int.le_refl _) h
theorem arg_vle {K : Int} {w : Wo} {m : Tm} (hw : WOk K w m.size) (hm : mayB m = true) {i : Nat} {x : Tm} (hi : i < m.args.length) (h : argW w.wd m i x w.ctx = 0) : vleB K (m.arg i) = true := by
  rw [argW_lt hi] at h
  have hc := hw.cl
  have hk := hw.hk
  have hs := size_arg (arg_mem hi)
  have := scoped_vle _ _ _ (term_scoped w.wd _ _ _ (may_parts (may_argm (arg_mem hi) hm)).1 h)
  exact vle_mono (by omega) this
def csp_S (w : Wo) (t : Tm) (l : List Tm) (i : Nat) : St := mk 52 [(3, .lref 3 0), (4, .lref 4 0), (6, .lref 6 0), (13, dL l), (14, dI l.length), (15, dI i)] [(3, celW w), (4, cel3 t), (6, zc3)] [] []
def csp_X (w : Wo) (t : Tm) (l : List Tm) : St := mk 52 [(3, .lref 3 0), (4, .lref 4 0), (6, .lref 6 0), (13, dL l), (14, dI l.length), (15, dI l.length), (16, dB false)] [(3, celW w), (4, cel3 t), (6, zc3)] [] []
def csp_R (e : Int) : St := mk 52 [(6, .lref 6 0), (7, dI e)] [(6, zc3)] [] []
theorem csp_step {w : Wo} {m t u : Tm} {i : Nat} {h h' : List HO} (hi : i < m.args.length) (hl : m.args.length < room) (k1 : (t.kind != 1) = false) (ht : t.args.length = 2)
    (hrec : (lim C).call 39 [dW w, dT (m.arg i), dT (t.arg 0)] [] = some (.ret (dI 0), h))
    (hap : (lim C).call 70 [dT (t.arg 1), dS ⟨[m.arg i], 0⟩] [] = some (.ret (.tup [dT u, dI 0]), h')) :
    (lim C).code 60 (cf (.loop (cf (cf (cs (cf (cs (bodyOf Try.f60)))))))) (csp_S w t m.args i) = some (.nor, csp_S w u m.args (i + 1)) := by
  have hr : room = 1099511627776 := rfl
  have e0 : t.args[0]? = some (t.arg 0) := arg_get (by omega)
  have e1 : t.args[1]? = some (t.arg 1) := arg_get (by omega)
  have hsb : Dv.agg [.slc [enc (m.arg i)], .int .i64 0] = encS ⟨[m.arg i], 0⟩ := rfl
  have h00 : ((0 : Int) != 0) = false := rfl
  simp -implicitDefEqProofs (disch := decide +kernel) only [cf, cs, bodyOf, Try.f60, Option.getD_some, go_sem, ↓reduceIte, Nat.reduceSub, Nat.reduceAdd, Nat.reduceMul, Nat.reduceBEq, Nat.reduceLT, Nat.reduceLeDiff, Nat.reduceEqDiff, reduceCtorEq, Int.reduceToNat, Int.reduceLE, Int.reduceLT, Int.reduceBEq, Int.reduceBNe, mCall, csp_S, cel3, celW, zc3, cells_enc, cells_encW, lt_true hi, arg_get hi, k1, e0, e1, hsb, hrec, hap, h00, (enc_eq (m.arg i)).symm, (enc_eq u).symm, wrap_succ (n := i) (by omega)]
theorem csp_bad1 {w : Wo} {m t : Tm} {i : Nat} (hi : i < m.args.length) (hl : m.args.length < room) (k1 : (t.kind != 1) = true) :
    (lim C).code 60 (cf (.loop (cf (cf (cs (cf (cs (bodyOf Try.f60)))))))) (csp_S w t m.args i) = some (.ret, csp_R 3) := by
  have hz := zT_enc
  simp -implicitDefEqProofs (disch := decide +kernel) only [cf, cs, bodyOf, Try.f60, Option.getD_some, go_sem, ↓reduceIte, Nat.reduceSub, Nat.reduceAdd, Nat.reduceMul, Nat.reduceBEq, Nat.reduceLT, Nat.reduceLeDiff, Nat.reduceEqDiff, reduceCtorEq, Int.reduceToNat, Int.reduceLE, Int.reduceLT, Int.reduceBEq, Int.reduceBNe, mCall, csp_S, csp_R, cel3, celW, zc3, cells_enc, cells_encW, lt_true hi, arg_get hi, k1, hz, (enc_eq (m.arg i)).symm]
theorem csp_bad2 {w : Wo} {m t : Tm} {i : Nat} {e : Int} {h : List HO} (hi : i < m.args.length) (hl : m.args.length < room) (k1 : (t.kind != 1) = false) (ht : t.args.length = 2) (he : (e != 0) = true)
    (hrec : (lim C).call 39 [dW w, dT (m.arg i), dT (t.arg 0)] [] = some (.ret (dI e), h)) :
    (lim C).code 60 (cf (.loop (cf (cf (cs (cf (cs (bodyOf Try.f60)))))))) (csp_S w t m.args i) = some (.ret, csp_R e) := by
  have hz := zT_enc
  have e0 : t.args[0]? = some (t.arg 0) := arg_get (by omega)
  simp -implicitDefEqProofs (disch := decide +kernel) only [cf, cs, bodyOf, Try.f60, Option.getD_some, go_sem, ↓reduceIte, Nat.reduceSub, Nat.reduceAdd, Nat.reduceMul, Nat.reduceBEq, Nat.reduceLT, Nat.reduceLeDiff, Nat.reduceEqDiff, reduceCtorEq, Int.reduceToNat, Int.reduceLE, Int.reduceLT, Int.reduceBEq, Int.reduceBNe, mCall, csp_S, csp_R, cel3, celW, zc3, cells_enc, cells_encW, lt_true hi, arg_get hi, k1, e0, hrec, he, hz, (enc_eq (m.arg i)).symm]
theorem csp_bad3 {w : Wo} {m t u : Tm} {i : Nat} {e : Int} {h h' : List HO} (hi : i < m.args.length) (hl : m.args.length < room) (k1 : (t.kind != 1) = false) (ht : t.args.length = 2) (he : (e != 0) = true)
    (hrec : (lim C).call 39 [dW w, dT (m.arg i), dT (t.arg 0)] [] = some (.ret (dI 0), h))
    (hap : (lim C).call 70 [dT (t.arg 1), dS ⟨[m.arg i], 0⟩] [] = some (.ret (.tup [dT u, dI e]), h')) :
    (lim C).code 60 (cf (.loop (cf (cf (cs (cf (cs (bodyOf Try.f60)))))))) (csp_S w t m.args i) = some (.ret, csp_R e) := by
  have hz := zT_enc
  have e0 : t.args[0]? = some (t.arg 0) := arg_get (by omega)
  have e1 : t.args[1]? = some (t.arg 1) := arg_get (by omega)
  have hsb : Dv.agg [.slc [enc (m.arg i)], .int .i64 0] = encS ⟨[m.arg i], 0⟩ := rfl
  have h00 : ((0 : Int) != 0) = false := rfl
  simp -implicitDefEqProofs (disch := decide +kernel) only [cf, cs, bodyOf, Try.f60, Option.getD_some, go_sem, ↓reduceIte, Nat.reduceSub, Nat.reduceAdd, Nat.reduceMul, Nat.reduceBEq, Nat.reduceLT, Nat.reduceLeDiff, Nat.reduceEqDiff, reduceCtorEq, Int.reduceToNat, Int.reduceLE, Int.reduceLT, Int.reduceBEq, Int.reduceBNe, mCall, csp_S, csp_R, cel3, celW, zc3, cells_enc, cells_encW, lt_true hi, arg_get hi, k1, e0, e1, hsb, hrec, hap, he, h00, hz, (enc_eq (m.arg i)).symm, (enc_eq u).symm]
theorem loop_nor' {f : Nat} {b : Code} {σ σ' : St} (h : (lim C).code f b σ = some (.nor, σ')) : (lim C).code f (.loop b) σ = (lim C).code f (.loop b) σ' := by
  rw [ev_loop, h]; rfl
theorem loop_out' {f : Nat} {b : Code} {σ : St} {x : Ex} {σ' : St} (h : (lim C).code f b σ = some (x, σ')) (hx : x ≠ .nor) : (lim C).code f (.loop b) σ = some (x, σ') := by
  rw [ev_loop, h]
  cases x <;> first | rfl | exact absurd rfl hx
def csp_out (w : Wo) (l : List Tm) (r : Tm × Int) : Ex × St := if r.2 = 0 then (.exit 0, csp_X w r.1 l) else (.ret, csp_R r.2)
theorem csp_err (w : Wo) (l : List Tm) {e : Int} (h : e ≠ 0) : csp_out w l (zT, e) = (.ret, csp_R e) := if_neg h
theorem csp_loop {w : Wo} {m : Tm} {K : Int} (hT : Tells w m K) (hm : mayB m = true) (hw : WOk K w m.size) (hK : K + 2000000 * ((m.args.length : Int) + 2) ≤ topV) : ∀ (k i : Nat) (t : Tm), i + k = m.args.length → mayB t = true → vleB (K + 2000000 * ((i : Int) + 1)) t = true →
    (lim C).code 60 (.loop (cf (cf (cs (cf (cs (bodyOf Try.f60))))))) (csp_S w t m.args i) = some (csp_out w m.args (spW (argF w m) m.arg k i t))
  | 0, i, t, hi, _, _ => by
    obtain rfl : i = m.args.length := by omega
    simp only [spW, csp_out, if_true]
    refine loop_out' ?_ (by simp)
    simp -implicitDefEqProofs (disch := decide +kernel) only [cf, cs, bodyOf, Try.f60, Option.getD_some, go_sem, ↓reduceIte, Nat.reduceSub, Nat.reduceAdd, Nat.reduceMul, Nat.reduceBEq, Nat.reduceLT, Nat.reduceLeDiff, Nat.reduceEqDiff, reduceCtorEq, Int.reduceToNat, Int.reduceLE, Int.reduceLT, Int.reduceBEq, Int.reduceBNe, mCall, csp_S, csp_X, lt_false (Nat.le_refl m.args.length)]
  | k + 1, i, t, hi, ht, hvt => by
    have hr : room = 1099511627776 := rfl
    have h0 := hw.h0
    have hlt : i < m.args.length := by omega
    have hml : m.args.length < room := by have := len_size m; have := may_room hm; omega
    simp only [spW]
    cases k1 : (t.kind != 1)
    · have hk : t.kind = 1 := by simpa using k1
      have hl2 := pi_len (may_parts ht).1 hk
      rw [if_neg (by simpa using hk)]
      have m0 := may_argm (arg_mem (t := t) (i := 0) (by omega)) ht
      have m1 := may_argm (arg_mem (t := t) (i := 1) (by omega)) ht
      have v0 := vle_args hvt 0 (by omega)
      have v1 := vle_args hvt 1 (by omega)
      obtain ⟨h, hrec⟩ := hT i hlt (t.arg 0) m0 v0
      by_cases he : argF w m i (t.arg 0) = 0
      · rw [if_neg (by simpa using he)]
        have he' : argW w.wd m i (t.arg 0) w.ctx = 0 := he
        rw [he'] at hrec
        have ma := may_argm (arg_mem hlt) hm
        have va := arg_vle hw hm hlt he'
        obtain ⟨h', hap⟩ := sapply_spec (t.arg 1) ⟨[m.arg i], 0⟩ (may_room m1) (by simpa using may_room ma) (by simp; omega) (vle_mono (by omega) v1) (by simpa using vle_mono (by omega) va)
        have hvr := applyR_vle (K := K + 2000000 * ((i : Int) + 1)) (by omega) v1 (s := ⟨[m.arg i], 0⟩) (by simpa using vle_mono (by omega) va)
        have hmr := applyR_may (t.arg 1) ⟨[m.arg i], 0⟩
        generalize applyR (t.arg 1) ⟨[m.arg i], 0⟩ = r at hap hvr hmr ⊢
        obtain ⟨u, e⟩ := r
        by_cases he2 : e = 0
        · subst he2
          rw [if_neg (by simp)]
          exact (loop_nor' (csp_step hlt hml k1 hl2 hrec hap)).trans (csp_loop hT hm hw hK k (i + 1) u (by omega) hmr (by
            have : K + 2000000 * ((i : Int) + 1) + 2000000 = K + 2000000 * (((i + 1 : Nat) : Int) + 1) := by omega
            rw [← this]; exact hvr))
        · rw [if_pos (by simpa using he2)]
          rw [csp_err w m.args (by simpa using he2)]
          exact loop_out' (csp_bad3 hlt hml k1 hl2 (by simpa using he2) hrec hap) (by simp)
      · rw [if_pos (by simpa using he)]
        have he' : ¬ argW w.wd m i (t.arg 0) w.ctx = 0 := he
        rw [csp_err w m.args (by simpa using he)]
        exact loop_out' (csp_bad2 hlt hml k1 hl2 (by simpa using he') hrec) (by simp)
    · rw [if_pos (by simpa using k1)]
      rw [csp_err w m.args (by decide)]
      exact loop_out' (csp_bad1 hlt hml k1) (by simp)
theorem cspine_spec {w : Wo} {m : Tm} {K : Int} (hT : Tells w m K) (hm : mayB m = true) (hw : WOk K w m.size) (hK : K + 2000000 * ((m.args.length : Int) + 2) ≤ topV) {t : Tm} (ht : mayB t = true) (hvt : vleB (K + 2000000) t = true) :
    ∃ h, (lim C).call 60 [dW w, dT t, dL m.args] [] = some (.ret (.tup [dT (spW (argF w m) m.arg m.args.length 0 t).1, dI (spW (argF w m) m.arg m.args.length 0 t).2]), h) := by
  have hloop := csp_loop hT hm hw hK m.args.length 0 t (by omega) ht (by simpa using hvt)
  refine ⟨[], ?_⟩
  generalize hr : spW (argF w m) m.arg m.args.length 0 t = r at hloop ⊢
  obtain ⟨u, e⟩ := r
  rw [ev_fn 60 Try.f60 _ _ _ rfl Try.func60 rfl Try.ntmps60 rfl]
  simp -implicitDefEqProofs (disch := decide +kernel) only [go_sem, ↓reduceIte, Nat.reduceSub, Nat.reduceAdd, Nat.reduceMul, Nat.reduceBEq, Nat.reduceLT, Nat.reduceLeDiff, Nat.reduceEqDiff, reduceCtorEq, Int.reduceToNat, Int.reduceLE, Int.reduceLT, Int.reduceBEq, Int.reduceBNe, mCall, cells_encW, celW, cells_enc, cel3]
  rw [loop_at hloop ?hb ?hs]
  case hb => rfl
  case hs => rfl
  by_cases he : e = 0
  · subst he
    simp only [csp_out, if_true]
    simp -implicitDefEqProofs (disch := decide +kernel) only [go_sem, ↓reduceIte, Nat.reduceSub, Nat.reduceAdd, Nat.reduceMul, Nat.reduceBEq, Nat.reduceLT, Nat.reduceLeDiff, Nat.reduceEqDiff, reduceCtorEq, Int.reduceToNat, Int.reduceLE, Int.reduceLT, Int.reduceBEq, Int.reduceBNe, mCall, csp_X, celW, cel3, zc3, cells_enc, (enc_eq u).symm]
  · have hz : u = zT := by
      have := spW_err (T := argF w m) (arg := m.arg) m.args.length 0 t (by rw [hr]; exact he)
      rw [hr] at this
      exact this
    subst hz
    simp only [csp_out, if_neg he]
    simp -implicitDefEqProofs (disch := decide +kernel) only [go_sem, ↓reduceIte, Nat.reduceSub, Nat.reduceAdd, Nat.reduceMul, Nat.reduceBEq, Nat.reduceLT, Nat.reduceLeDiff, Nat.reduceEqDiff, reduceCtorEq, Int.reduceToNat, Int.reduceLE, Int.reduceLT, Int.reduceBEq, Int.reduceBNe, mCall, csp_R, cel3, zc3, cells_enc, zT_enc]
end Go.Proofs.Ytkmpfdecjmnccaa
/- The package check: what a node comes to. -/
set_option linter.unusedSimpArgs false
set_option linter.unusedVariables false
set_option maxRecDepth 100000
namespace Go.Proofs.Ytkmpfdecjmnccaa
open Go.Proofs
structure NodeOk (w : Wo) (m : Tm) (K : Int) : Prop where
  tells : Tells w m K
  may : mayB m = true
  wok : WOk K w m.size
  top : K + 4000000 * (m.size : Int) ≤ topV
theorem NodeOk.h0 {w : Wo} {m : Tm} {K : Int} (h : NodeOk w m K) : 0 ≤ K := h.wok.h0
theorem NodeOk.top2 {w : Wo} {m : Tm} {K : Int} (h : NodeOk w m K) : K + 2000000 * ((m.args.length : Int) + 2) ≤ topV := by
  have := h.top
  have := len_size m
  omega
theorem NodeOk.spine {w : Wo} {m : Tm} {K : Int} (h : NodeOk w m K) {t : Tm} (ht : mayB t = true) (hv : vleB (K + 2000000) t = true) :
    ∃ h, (lim C).call 60 [dW w, dT t, dL m.args] [] = some (.ret (.tup [dT (spW (argF w m) m.arg m.args.length 0 t).1, dI (spW (argF w m) m.arg m.args.length 0 t).2]), h) :=
  cspine_spec h.tells h.may h.wok h.top2 ht hv
theorem getD_mem' {α : Type} [Inhabited α] {l : List α} {i : Nat} (h : i < l.length) : l.getD i default ∈ l := by
  rw [List.getD_eq_getElem?_getD, List.getElem?_eq_getElem h]
  exact List.getElem_mem _
theorem cvar_spec {w : Wo} {m : Tm} {K : Int} (hn : NodeOk w m K) : ∃ h, (lim C).call 63 [dW w, dT m] [] = some (.ret (.tup [dT (spD (argF w m) m (varW w.ctx m.head)).1, dI (spD (argF w m) m (varW w.ctx m.head)).2]), h) := by
  have hr : room = 1099511627776 := rfl
  have hz := zT_enc
  have hh := node_head (node_here (may_parts hn.may).1)
  have hcl := hn.wok.cl
  have h0 := hn.h0
  refine ⟨[], ?_⟩
  unfold varW
  rw [ev_fn 63 Try.f63 _ _ _ rfl Try.func63 rfl Try.ntmps63 rfl]
  cases h1 : decide (m.head ≥ (w.ctx.length : Int))
  · rw [if_neg (by simpa using h1)]
    have hlt : m.head < w.ctx.length := by simp at h1; omega
    have hx := getD_mem' (l := w.ctx) (i := w.ctx.length - 1 - m.head.toNat) (by omega)
    have hg := getD_get (a := w.ctx) (i := w.ctx.length - 1 - m.head.toNat) (by omega)
    obtain ⟨x1, x2⟩ := hn.wok.ctx _ hx
    generalize w.ctx.getD (w.ctx.length - 1 - m.head.toNat) default = x at hx hg x1 x2 ⊢
    have hu1 := up_may x1 (b := m.head + 1) (by omega) 0
    have hu2 : vleB (K + 2000000) (upT x (m.head + 1) 0) = true := vle_mono (by omega) (vle_up x2 (b := m.head + 1) (by omega) 0)
    obtain ⟨h, hs⟩ := hn.spine hu1 hu2
    rw [spD_go (by rfl)]
    have hw1 : IntKind.wrap .i64 ((w.ctx.length : Int) - 1) = (w.ctx.length : Int) - 1 := wrap_ok (by omega) (by omega)
    have hw2 : IntKind.wrap .i64 ((w.ctx.length : Int) - 1 - m.head) = (w.ctx.length : Int) - 1 - m.head := wrap_ok (by omega) (by omega)
    have hw3 : IntKind.wrap .i64 (m.head + 1) = m.head + 1 := wrap_ok (by omega) (by omega)
    have hi0 : 0 ≤ (w.ctx.length : Int) - 1 - m.head := by omega
    have hi1 : ((w.ctx.length : Int) - 1 - m.head).toNat = w.ctx.length - 1 - m.head.toNat := by omega
    have hren : renB x (m.head + 1) 0 = true := by
      simp only [renB, x1, Bool.true_and, Bool.and_eq_true, decide_eq_true_eq]
      omega
    have hvl : vlowB x = true := vle_mono (by have := hn.top; have htv : topV = 1125899906842624 := rfl; omega) x2
    obtain ⟨h', hup⟩ := sup_spec x (may_room x1) hvl (m.head + 1) 0
    rw [hren, if_pos rfl] at hup
    generalize spW (argF w m) m.arg m.args.length 0 (upT x (m.head + 1) 0) = r at hs ⊢
    simp -implicitDefEqProofs (disch := decide +kernel) only [go_sem, ↓reduceIte, Nat.reduceSub, Nat.reduceAdd, Nat.reduceMul, Nat.reduceBEq, Nat.reduceLT, Nat.reduceLeDiff, Nat.reduceEqDiff, reduceCtorEq, Int.reduceToNat, Int.reduceLE, Int.reduceLT, Int.reduceBEq, Int.reduceBNe, mCall, cells_encW, celW, cells_enc, cel3, h1, hw1, hw2, hw3, hi0, hi1, hg, hup, hs, (enc_eq x).symm, (enc_eq m).symm, (enc_eq r.1).symm]
  · rw [if_pos (by simpa using h1)]
    have hs : spD (argF w m) m (zT, 2) = (zT, 2) := rfl
    rw [hs]
    simp -implicitDefEqProofs (disch := decide +kernel) only [go_sem, ↓reduceIte, Nat.reduceSub, Nat.reduceAdd, Nat.reduceMul, Nat.reduceBEq, Nat.reduceLT, Nat.reduceLeDiff, Nat.reduceEqDiff, reduceCtorEq, Int.reduceToNat, Int.reduceLE, Int.reduceLT, Int.reduceBEq, Int.reduceBNe, mCall, cells_encW, celW, cells_enc, cel3, h1, hz]
theorem cconst_spec {w : Wo} {m : Tm} {K : Int} (hn : NodeOk w m K) : ∃ h, (lim C).call 64 [dW w, dT m] [] = some (.ret (.tup [dT (spD (argF w m) m (declW w.wd m.head false)).1, dI (spD (argF w m) m (declW w.wd m.head false)).2]), h) := by
  have hz := zT_enc
  have hh := node_head (node_here (may_parts hn.may).1)
  have h0 := hn.h0
  have hd := cdecl_spec w m.head false hh
  have hp : (declW w.wd m.head false).2 = 0 → mayB (declW w.wd m.head false).1 = true ∧ vleB (K + 2000000) (declW w.wd m.head false).1 = true := fun e => by
    obtain ⟨e1, e2, e3⟩ := declW_ok e
    rw [e3]
    have hlt : m.head.toNat < w.sig.length := by simp [Wo.wd] at e1; omega
    have hg : w.wd.sig.getD m.head.toNat default = (Dcs.at w.sig m.head.toNat).t := getD_sig hlt
    rw [hg]
    have := hn.wok.sig _ (dat_mem hlt)
    exact ⟨this.1, vle_mono (by omega) this.2⟩
  refine ⟨[], ?_⟩
  generalize declW w.wd m.head false = q at hd hp ⊢
  obtain ⟨t, e⟩ := q
  rw [ev_fn 64 Try.f64 _ _ _ rfl Try.func64 rfl Try.ntmps64 rfl]
  by_cases he : e = 0
  · subst he
    obtain ⟨p1, p2⟩ := hp rfl
    obtain ⟨h, hs⟩ := hn.spine p1 p2
    rw [spD_go (by rfl)]
    generalize spW (argF w m) m.arg m.args.length 0 t = r at hs ⊢
    have h00 : ((0 : Int) != 0) = false := rfl
    simp -implicitDefEqProofs (disch := decide +kernel) only [go_sem, ↓reduceIte, Nat.reduceSub, Nat.reduceAdd, Nat.reduceMul, Nat.reduceBEq, Nat.reduceLT, Nat.reduceLeDiff, Nat.reduceEqDiff, reduceCtorEq, Int.reduceToNat, Int.reduceLE, Int.reduceLT, Int.reduceBEq, Int.reduceBNe, mCall, cells_encW, celW, cells_enc, cel3, hd, h00, hs, (enc_eq t).symm, (enc_eq m).symm, (enc_eq r.1).symm]
  · have hs : spD (argF w m) m (t, e) = (zT, e) := by unfold spD; rw [if_pos he]
    have he' : (e != 0) = true := by simpa using he
    rw [hs]
    simp -implicitDefEqProofs (disch := decide +kernel) only [go_sem, ↓reduceIte, Nat.reduceSub, Nat.reduceAdd, Nat.reduceMul, Nat.reduceBEq, Nat.reduceLT, Nat.reduceLeDiff, Nat.reduceEqDiff, reduceCtorEq, Int.reduceToNat, Int.reduceLE, Int.reduceLT, Int.reduceBEq, Int.reduceBNe, mCall, cells_encW, celW, cells_enc, cel3, hd, he', hz, (enc_eq m).symm]
def cmt_S (w : Wo) (m : Tm) (D : Md) (i : Nat) : St := mk 79 [(2, .lref 2 0), (3, .lref 3 0), (4, .lref 4 0), (6, .lref 6 0), (33, dL D.ctx), (34, dI D.ctx.length), (35, dI i)] [(2, celW w), (3, cel3 m), (4, zc3), (6, cel5 D)] [] []
def cmt_X (w : Wo) (m : Tm) (D : Md) : St := mk 79 [(2, .lref 2 0), (3, .lref 3 0), (4, .lref 4 0), (6, .lref 6 0), (33, dL D.ctx), (34, dI D.ctx.length), (35, dI D.ctx.length), (36, dB false)] [(2, celW w), (3, cel3 m), (4, zc3), (6, cel5 D)] [] []
def cmt_R (e : Int) : St := mk 79 [(4, .lref 4 0), (5, dI e)] [(4, zc3)] [] []
theorem cmt_step {w : Wo} {m u : Tm} {D : Md} {i : Nat} {e : Int} {h h' : List HO} (hi : i < D.ctx.length) (him : i < m.args.length) (hl : D.ctx.length < room) (hlm : m.args.length < room) (hlc : w.ctx.length < room)
    (hap : (lim C).call 70 [dT (D.ctx.getD i default), dS ⟨m.args.take i, w.ctx.length⟩] [] = some (.ret (.tup [dT u, dI 0]), h'))
    (hrec : (lim C).call 39 [dW w, dT (m.arg i), dT u] [] = some (.ret (dI 0), h)) :
    (lim C).code 65 (cf (.loop (cf (cf (cs (cf (cs (cs (cs (cs (bodyOf Try.f65))))))))))) (cmt_S w m D i) = some (.nor, cmt_S w m D (i + 1)) := by
  have hr : room = 1099511627776 := rfl
  have hsb : Dv.agg [.slc ((encs m.args).take i), .int .i64 w.ctx.length] = encS ⟨m.args.take i, w.ctx.length⟩ := by rw [← encs_take]; rfl
  have h00 : ((0 : Int) != 0) = false := rfl
  have h01 : ((0 : Int) == 0) = true := rfl
  have hle : i ≤ m.args.length := by omega
  simp -implicitDefEqProofs (disch := decide +kernel) only [cf, cs, bodyOf, Try.f65, Option.getD_some, go_sem, ↓reduceIte, Nat.reduceSub, Nat.reduceAdd, Nat.reduceMul, Nat.reduceBEq, Nat.reduceLT, Nat.reduceLeDiff, Nat.reduceEqDiff, reduceCtorEq, Int.reduceToNat, Int.reduceLE, Int.reduceLT, Int.reduceBEq, Int.reduceBNe, mCall, cmt_S, cel3, cel5, celW, zc3, cells_enc, cells_encW, lt_true hi, getD_get hi, arg_get him, Nat.zero_le, hle, encs_all, hsb, hap, hrec, h00, h01, (enc_eq (m.arg i)).symm, (enc_eq u).symm, (enc_eq (D.ctx.getD i default)).symm, wrap_succ (n := i) (by omega)]
theorem cmt_bad1 {w : Wo} {m u : Tm} {D : Md} {i : Nat} {e : Int} {h' : List HO} (hi : i < D.ctx.length) (him : i < m.args.length) (hl : D.ctx.length < room) (hlm : m.args.length < room) (hlc : w.ctx.length < room) (he : (e != 0) = true)
    (hap : (lim C).call 70 [dT (D.ctx.getD i default), dS ⟨m.args.take i, w.ctx.length⟩] [] = some (.ret (.tup [dT u, dI e]), h')) :
    (lim C).code 65 (cf (.loop (cf (cf (cs (cf (cs (cs (cs (cs (bodyOf Try.f65))))))))))) (cmt_S w m D i) = some (.ret, cmt_R e) := by
  have hr : room = 1099511627776 := rfl
  have hz := zT_enc
  have hsb : Dv.agg [.slc ((encs m.args).take i), .int .i64 w.ctx.length] = encS ⟨m.args.take i, w.ctx.length⟩ := by rw [← encs_take]; rfl
  have he2 : (e == 0) = false := by simpa using he
  have hle : i ≤ m.args.length := by omega
  simp -implicitDefEqProofs (disch := decide +kernel) only [cf, cs, bodyOf, Try.f65, Option.getD_some, go_sem, ↓reduceIte, Nat.reduceSub, Nat.reduceAdd, Nat.reduceMul, Nat.reduceBEq, Nat.reduceLT, Nat.reduceLeDiff, Nat.reduceEqDiff, reduceCtorEq, Int.reduceToNat, Int.reduceLE, Int.reduceLT, Int.reduceBEq, Int.reduceBNe, mCall, cmt_S, cmt_R, cel3, cel5, celW, zc3, cells_enc, cells_encW, lt_true hi, getD_get hi, arg_get him, Nat.zero_le, hle, encs_all, hsb, hap, he, he2, hz, (enc_eq u).symm, (enc_eq (D.ctx.getD i default)).symm]
theorem cmt_bad2 {w : Wo} {m u : Tm} {D : Md} {i : Nat} {e : Int} {h h' : List HO} (hi : i < D.ctx.length) (him : i < m.args.length) (hl : D.ctx.length < room) (hlm : m.args.length < room) (hlc : w.ctx.length < room) (he : (e != 0) = true)
    (hap : (lim C).call 70 [dT (D.ctx.getD i default), dS ⟨m.args.take i, w.ctx.length⟩] [] = some (.ret (.tup [dT u, dI 0]), h'))
    (hrec : (lim C).call 39 [dW w, dT (m.arg i), dT u] [] = some (.ret (dI e), h)) :
    (lim C).code 65 (cf (.loop (cf (cf (cs (cf (cs (cs (cs (cs (bodyOf Try.f65))))))))))) (cmt_S w m D i) = some (.ret, cmt_R e) := by
  have hr : room = 1099511627776 := rfl
  have hz := zT_enc
  have hsb : Dv.agg [.slc ((encs m.args).take i), .int .i64 w.ctx.length] = encS ⟨m.args.take i, w.ctx.length⟩ := by rw [← encs_take]; rfl
  have h01 : ((0 : Int) == 0) = true := rfl
  have hle : i ≤ m.args.length := by omega
  simp -implicitDefEqProofs (disch := decide +kernel) only [cf, cs, bodyOf, Try.f65, Option.getD_some, go_sem, ↓reduceIte, Nat.reduceSub, Nat.reduceAdd, Nat.reduceMul, Nat.reduceBEq, Nat.reduceLT, Nat.reduceLeDiff, Nat.reduceEqDiff, reduceCtorEq, Int.reduceToNat, Int.reduceLE, Int.reduceLT, Int.reduceBEq, Int.reduceBNe, mCall, cmt_S, cmt_R, cel3, cel5, celW, zc3, cells_enc, cells_encW, lt_true hi, getD_get hi, arg_get him, Nat.zero_le, hle, encs_all, hsb, hap, hrec, he, h01, hz, (enc_eq (m.arg i)).symm, (enc_eq u).symm, (enc_eq (D.ctx.getD i default)).symm]
theorem mem_take_may {m : Tm} (hm : mayB m = true) {K : Int} {i : Nat} (hp : ∀ j, j < i → j < m.args.length → vleB K (m.arg j) = true) : ∀ y ∈ m.args.take i, mayB y = true ∧ vleB K y = true := by
  intro y hy
  obtain ⟨j, hj, rfl⟩ := List.mem_iff_getElem.1 hy
  simp only [List.length_take] at hj
  rw [List.getElem_take, arg_eq (by omega)]
  exact ⟨may_argm (arg_mem (by omega)) hm, hp j (by omega) (by omega)⟩
theorem meta_app {w : Wo} {m : Tm} {K : Int} (hn : NodeOk w m K) {x : Tm} (hx : mayB x = true ∧ vleB K x = true) (i : Nat) (hpv : ∀ j, j < i → j < m.args.length → vleB K (m.arg j) = true) :
    (∃ h, (lim C).call 70 [dT x, dS ⟨m.args.take i, w.ctx.length⟩] [] = some (.ret (.tup [dT (applyR x ⟨m.args.take i, w.ctx.length⟩).1, dI (applyR x ⟨m.args.take i, w.ctx.length⟩).2]), h)) ∧
    mayB (applyR x ⟨m.args.take i, w.ctx.length⟩).1 = true ∧ vleB (K + 2000000) (applyR x ⟨m.args.take i, w.ctx.length⟩).1 = true := by
  have hr : room = 1099511627776 := rfl
  have ht := hn.top
  have hml : m.args.length < room := by have := len_size m; have := may_room hn.may; omega
  have hp := mem_take_may hn.may hpv
  refine ⟨sapply_spec x _ (may_room hx.1) (fun y hy => may_room (hp y hy).1) (by simp; omega) (vle_mono (by omega) hx.2) (fun y hy => vle_mono (by omega) (hp y hy).2), applyR_may _ _, applyR_vle hn.h0 hx.2 fun y hy => (hp y hy).2⟩
def cmt_out (w : Wo) (m : Tm) (D : Md) (e : Int) : Ex × St := if e = 0 then (.exit 0, cmt_X w m D) else (.ret, cmt_R e)
theorem cmt_err (w : Wo) (m : Tm) (D : Md) {e : Int} (h : e ≠ 0) : cmt_out w m D e = (.ret, cmt_R e) := if_neg h
theorem cmt_loop {w : Wo} {m : Tm} {K : Int} (hn : NodeOk w m K) {D : Md} (hD : D ∈ w.metas) (hDl : D.ctx.length = m.args.length) : ∀ (k i : Nat), i + k = m.args.length → (∀ j, j < i → j < m.args.length → vleB K (m.arg j) = true) →
    (lim C).code 65 (.loop (cf (cf (cs (cf (cs (cs (cs (cs (bodyOf Try.f65)))))))))) (cmt_S w m D i) =
      some (cmt_out w m D (mtW (argF w m) D.ctx m.args w.ctx.length k i))
  | 0, i, hi, _ => by
    obtain rfl : i = D.ctx.length := by omega
    simp only [mtW, cmt_out, if_true]
    refine loop_out' ?_ (by simp)
    simp -implicitDefEqProofs (disch := decide +kernel) only [cf, cs, bodyOf, Try.f65, Option.getD_some, go_sem, ↓reduceIte, Nat.reduceSub, Nat.reduceAdd, Nat.reduceMul, Nat.reduceBEq, Nat.reduceLT, Nat.reduceLeDiff, Nat.reduceEqDiff, reduceCtorEq, Int.reduceToNat, Int.reduceLE, Int.reduceLT, Int.reduceBEq, Int.reduceBNe, mCall, cmt_S, cmt_X, lt_false (Nat.le_refl D.ctx.length)]
  | k + 1, i, hi, hpv => by
    have hr : room = 1099511627776 := rfl
    have hlt : i < m.args.length := by omega
    have hltD : i < D.ctx.length := by omega
    have hml : m.args.length < room := by have := len_size m; have := may_room hn.may; omega
    have hcl := hn.wok.cl
    obtain ⟨_, dl, dc⟩ := hn.wok.metas D hD
    obtain ⟨⟨h', hap⟩, ha1, ha2⟩ := meta_app hn (dc _ (getD_mem hltD)) i hpv
    simp only [mtW]
    generalize applyR (D.ctx.getD i default) ⟨m.args.take i, w.ctx.length⟩ = r at hap ha1 ha2 ⊢
    obtain ⟨u, e⟩ := r
    by_cases he : e = 0
    · subst he
      simp only [ne_eq, not_true_eq_false, if_false]
      obtain ⟨h, hrec⟩ := hn.tells i hlt u ha1 (vle_mono (by omega) ha2)
      by_cases he2 : argF w m i u = 0
      · have he' : argW w.wd m i u w.ctx = 0 := he2
        rw [he'] at hrec
        simp only [he2, not_true_eq_false, if_false]
        exact (loop_nor' (cmt_step (e := 0) hltD hlt dl hml (by omega) hap hrec)).trans (cmt_loop hn hD hDl k (i + 1) (by omega) fun j h1 h2 => by
          rcases Nat.lt_or_ge j i with h3 | h3
          · exact hpv j h3 h2
          · obtain rfl : j = i := by omega
            exact arg_vle hn.wok hn.may h2 he')
      · have he' : ¬ argW w.wd m i u w.ctx = 0 := he2
        simp only [he2, not_false_eq_true, if_true]
        rw [cmt_err w m D he2]
        exact loop_out' (cmt_bad2 hltD hlt dl hml (by omega) (by simpa using he') hap hrec) (by simp)
    · simp only [ne_eq, he, not_false_eq_true, if_true]
      rw [cmt_err w m D he]
      exact loop_out' (cmt_bad1 hltD hlt dl hml (by omega) (by simpa using he) hap) (by simp)
theorem cmeta_spec {w : Wo} {m : Tm} {K : Int} (hn : NodeOk w m K) : ∃ h, (lim C).call 65 [dW w, dT m] [] = some (.ret (.tup [dT (metaW w.wd w.ctx.length (argF w m) m).1, dI (metaW w.wd w.ctx.length (argF w m) m).2]), h) := by
  have hr : room = 1099511627776 := rfl
  have hz := zT_enc
  have hh := node_head (node_here (may_parts hn.may).1)
  have hcl := hn.wok.cl
  have hml : m.args.length < room := by have := len_size m; have := may_room hn.may; omega
  refine ⟨[], ?_⟩
  unfold metaW
  have hwm : w.wd.metas = w.metas := rfl
  rw [hwm]
  rw [ev_fn 65 Try.f65 _ _ _ rfl Try.func65 rfl Try.ntmps65 rfl]
  cases h1 : decide (m.head ≥ (w.metas.length : Int))
  · rw [if_neg (by simpa using h1)]
    have hlt : m.head.toNat < w.metas.length := by simp at h1; omega
    have hg := mget_get hlt
    have hD := mget_mem hlt
    generalize w.metas.getD m.head.toNat default = D at hg hD ⊢
    obtain ⟨dt, dl, dc⟩ := hn.wok.metas D hD
    cases h2 : ((D.ctx.length : Int) != m.args.length)
    · have hDl : D.ctx.length = m.args.length := by simp at h2; omega
      rw [if_neg (by simpa using hDl)]
      have hloop := cmt_loop hn hD hDl m.args.length 0 (by omega) (fun j h1 _ => by omega)
      by_cases h3 : mtW (argF w m) D.ctx m.args w.ctx.length m.args.length 0 = 0
      · rw [if_neg (by simpa using h3)]
        rw [cmt_out, if_pos h3] at hloop
        obtain ⟨⟨h', hap⟩, ha1, ha2⟩ := meta_app hn dt m.args.length (fun j _ hj => by
          obtain ⟨x, hx⟩ := mtW_all _ 0 h3 j (Nat.zero_le j) (by omega)
          exact arg_vle hn.wok hn.may hj hx)
        rw [List.take_length] at hap
        have hsb : Dv.agg [.slc (encs m.args), .int .i64 w.ctx.length] = encS ⟨m.args, w.ctx.length⟩ := rfl
        generalize applyR D.t ⟨m.args, w.ctx.length⟩ = r at hap ⊢
        simp -implicitDefEqProofs (disch := decide +kernel) only [go_sem, ↓reduceIte, Nat.reduceSub, Nat.reduceAdd, Nat.reduceMul, Nat.reduceBEq, Nat.reduceLT, Nat.reduceLeDiff, Nat.reduceEqDiff, reduceCtorEq, Int.reduceToNat, Int.reduceLE, Int.reduceLT, Int.reduceBEq, Int.reduceBNe, mCall, cells_encW, celW, cells_enc, cel3, h1, hg, hh, h2, cells_encM, cel5]
        rw [loop_at hloop ?hb ?hs]
        case hb => rfl
        case hs => rfl
        simp -implicitDefEqProofs (disch := decide +kernel) only [go_sem, ↓reduceIte, Nat.reduceSub, Nat.reduceAdd, Nat.reduceMul, Nat.reduceBEq, Nat.reduceLT, Nat.reduceLeDiff, Nat.reduceEqDiff, reduceCtorEq, Int.reduceToNat, Int.reduceLE, Int.reduceLT, Int.reduceBEq, Int.reduceBNe, mCall, cmt_X, celW, cel3, cel5, zc3, cells_enc, hsb, hap, (enc_eq D.t).symm, (enc_eq r.1).symm]
      · rw [if_pos (by simpa using h3)]
        rw [cmt_out, if_neg h3] at hloop
        simp -implicitDefEqProofs (disch := decide +kernel) only [go_sem, ↓reduceIte, Nat.reduceSub, Nat.reduceAdd, Nat.reduceMul, Nat.reduceBEq, Nat.reduceLT, Nat.reduceLeDiff, Nat.reduceEqDiff, reduceCtorEq, Int.reduceToNat, Int.reduceLE, Int.reduceLT, Int.reduceBEq, Int.reduceBNe, mCall, cells_encW, celW, cells_enc, cel3, h1, hg, hh, h2, cells_encM, cel5]
        rw [loop_at hloop ?hb ?hs]
        case hb => rfl
        case hs => rfl
        simp -implicitDefEqProofs (disch := decide +kernel) only [go_sem, ↓reduceIte, Nat.reduceSub, Nat.reduceAdd, Nat.reduceMul, Nat.reduceBEq, Nat.reduceLT, Nat.reduceLeDiff, Nat.reduceEqDiff, reduceCtorEq, Int.reduceToNat, Int.reduceLE, Int.reduceLT, Int.reduceBEq, Int.reduceBNe, mCall, cmt_R, cel3, zc3, cells_enc, zT_enc]
    · have hDl : ¬ D.ctx.length = m.args.length := by simp at h2; omega
      rw [if_pos (by simpa using hDl)]
      simp -implicitDefEqProofs (disch := decide +kernel) only [go_sem, ↓reduceIte, Nat.reduceSub, Nat.reduceAdd, Nat.reduceMul, Nat.reduceBEq, Nat.reduceLT, Nat.reduceLeDiff, Nat.reduceEqDiff, reduceCtorEq, Int.reduceToNat, Int.reduceLE, Int.reduceLT, Int.reduceBEq, Int.reduceBNe, mCall, cells_encW, celW, cells_enc, cel3, h1, hg, hh, h2, hz, cells_encM, cel5]
  · rw [if_pos (by simpa using h1)]
    simp -implicitDefEqProofs (disch := decide +kernel) only [go_sem, ↓reduceIte, Nat.reduceSub, Nat.reduceAdd, Nat.reduceMul, Nat.reduceBEq, Nat.reduceLT, Nat.reduceLeDiff, Nat.reduceEqDiff, reduceCtorEq, Int.reduceToNat, Int.reduceLE, Int.reduceLT, Int.reduceBEq, Int.reduceBNe, mCall, cells_encW, celW, cells_enc, cel3, h1, hz]
end Go.Proofs.Ytkmpfdecjmnccaa
/- The package check: terms, types, kinds. -/
set_option linter.unusedSimpArgs false
set_option linter.unusedVariables false
set_option maxRecDepth 100000
namespace Go.Proofs.Ytkmpfdecjmnccaa
open Go.Proofs
theorem sum_len : ∀ (l : List Nat), (∀ n ∈ l, 1 ≤ n) → ∀ n ∈ l, n + l.length ≤ l.sum + 1
  | [], _, n, h => by cases h
  | a :: l, hp, n, h => by
    have h1 := hp a (by simp)
    simp only [List.length_cons, List.sum_cons]
    rcases List.mem_cons.1 h with rfl | h
    · have : ∀ l : List Nat, (∀ n ∈ l, 1 ≤ n) → l.length ≤ l.sum := by
        intro l
        induction l with
        | nil => intro _; simp
        | cons a l ih => intro hq; have := ih fun n hn => hq n (by simp [hn]); have := hq a (by simp); simp; omega
      have := this l fun n hn => hp n (by simp [hn])
      omega
    · have := sum_len l (fun n hn => hp n (by simp [hn])) n h
      omega
theorem arg_len {m : Tm} {i : Nat} (hi : i < m.args.length) : (m.arg i).size + m.args.length ≤ m.size := by
  have := sum_len (m.args.map Tm.size) (fun n hn => by obtain ⟨x, _, rfl⟩ := List.mem_map.1 hn; exact size_pos x) _ (List.mem_map_of_mem (f := Tm.size) (arg_mem hi))
  rw [List.length_map] at this
  rw [size_eq m]
  omega
theorem may_kind {m : Tm} (h : mayB m = true) : m.kind = 0 ∨ m.kind = 1 ∨ m.kind = 2 ∨ m.kind = 3 ∨ m.kind = 4 ∨ m.kind = 5 ∨ m.kind = 6 := by
  have hn := node_here (may_parts h).1
  unfold nodeOk at hn
  split at hn
  · omega
  split at hn
  · omega
  split at hn
  · omega
  · simp only [Bool.and_eq_true, decide_eq_true_eq] at hn
    omega
theorem cm_may {w : Wo} {m : Tm} {n : Nat} {K : Int} (hw : WOk K w n) (h0 : 0 ≤ m.head) {T : Nat → Tm → Int} : mayB (cmW w.wd w.ctx T m).1 = true := by
  unfold cmW
  split
  · refine spD_may fun e => ?_
    obtain ⟨e1, e2⟩ := varW_ok e
    rw [e2]
    have := hw.ctx _ (getD_mem' (l := w.ctx) (i := w.ctx.length - 1 - m.head.toNat) (by omega))
    exact up_may this.1 (by omega) 0
  split
  · refine spD_may fun e => ?_
    obtain ⟨e1, e2, e3⟩ := declW_ok e
    rw [e3]
    have hlt : m.head.toNat < w.sig.length := by simp [Wo.wd] at e1; omega
    have hg : w.wd.sig.getD m.head.toNat default = (Dcs.at w.sig m.head.toNat).t := getD_sig hlt
    rw [hg]
    exact (hw.sig _ (dat_mem hlt)).1
  split
  · exact metaW_may
  · exact zT_may
set_option maxHeartbeats 4000000 in
theorem cterm_spec : ∀ m : Tm, mayB m = true → ∀ (w : Wo) (a : Tm) (K : Int), WOk K w m.size → K + 4000000 * (m.size : Int) ≤ topV → mayB a = true → vleB K a = true →
    ∃ h, (lim C).call 39 [dW w, dT m, dT a] [] = some (.ret (dI (termW w.wd m a w.ctx)), h) := by
  refine Tm.ind fun m ih hm w a K hw hK ha hva => ?_
  have hr : room = 1099511627776 := rfl
  have hn := (may_parts hm).1
  have hcl := hw.cl
  have hsp := size_pos m
  have hem := (enc_eq m).symm
  have hea := (enc_eq a).symm
  have h0 := hw.h0
  have hT : NodeOk w m K := ⟨fun i hi x hx hvx => by
      have hal := arg_len hi
      obtain ⟨h, hc⟩ := ih _ (arg_mem hi) (may_argm (arg_mem hi) hm) w x (K + 2000000 * ((i : Int) + 1)) (hw.mono (by omega) (by omega)) (by omega) hx hvx
      exact ⟨h, by rw [argW_lt hi]; exact hc⟩, hm, hw, hK⟩
  rw [termW_eq]
  unfold termB
  by_cases k3 : m.kind = 3
  · rw [if_pos k3]
    by_cases a1 : a.kind = 1
    · rw [if_pos a1]
      have hl := lam_len hn k3
      have hl2 := pi_len (may_parts ha).1 a1
      have hsz := arg_len (m := m) (i := 0) (by omega)
      have m0 := may_argm (arg_mem (t := a) (i := 0) (by omega)) ha
      have m1 := may_argm (arg_mem (t := a) (i := 1) (by omega)) ha
      have hww : WOk K (w.with (a.arg 0)) (m.arg 0).size := (hw.mono (Int.le_refl K) (by omega)).with m0 (vle_args hva 0 (by omega))
      obtain ⟨h, hc⟩ := ih _ (arg_mem (t := m) (i := 0) (by omega)) (may_argm (arg_mem (by omega)) hm) (w.with (a.arg 0)) (a.arg 1) K hww (by omega) m1 (vle_args hva 1 (by omega))
      rw [argW_lt (by omega)]
      have hc : _ = some (CR.ret (dI (termW w.wd (m.arg 0) (a.arg 1) (w.ctx ++ [a.arg 0]))), h) := hc
      have hwith := cwith_spec w (a.arg 0) (by omega)
      have e0 : m.args[0]? = some (m.arg 0) := arg_get (by omega)
      have f0 : a.args[0]? = some (a.arg 0) := arg_get (by omega)
      have f1 : a.args[1]? = some (a.arg 1) := arg_get (by omega)
      generalize termW w.wd (m.arg 0) (a.arg 1) (w.ctx ++ [a.arg 0]) = r at hc ⊢
      refine ⟨[], ?_⟩
      rw [ev_fn 39 Try.f39 _ _ _ rfl Try.func39 rfl Try.ntmps39 rfl]
      simp -implicitDefEqProofs (disch := decide +kernel) only [go_sem, ↓reduceIte, Nat.reduceSub, Nat.reduceAdd, Nat.reduceMul, Nat.reduceBEq, Nat.reduceLT, Nat.reduceLeDiff, Nat.reduceEqDiff, reduceCtorEq, Int.reduceToNat, Int.reduceLE, Int.reduceLT, Int.reduceBEq, Int.reduceBNe, mCall, cells_encW, celW, cells_enc, cel3, k3, a1, e0, f0, f1, hwith, hc, hem, hea, (enc_eq (m.arg 0)).symm, (enc_eq (a.arg 0)).symm, (enc_eq (a.arg 1)).symm]
    · rw [if_neg a1]
      have a1' : (a.kind == 1) = false := by simpa using a1
      refine ⟨[], ?_⟩
      rw [ev_fn 39 Try.f39 _ _ _ rfl Try.func39 rfl Try.ntmps39 rfl]
      simp -implicitDefEqProofs (disch := decide +kernel) only [go_sem, ↓reduceIte, Nat.reduceSub, Nat.reduceAdd, Nat.reduceMul, Nat.reduceBEq, Nat.reduceLT, Nat.reduceLeDiff, Nat.reduceEqDiff, reduceCtorEq, Int.reduceToNat, Int.reduceLE, Int.reduceLT, Int.reduceBEq, Int.reduceBNe, mCall, cells_encW, celW, cells_enc, cel3, k3, a1', hem, hea]
  · rw [if_neg k3]
    have k3' : (m.kind == 3) = false := by simpa using k3
    by_cases a2 : a.kind = 2
    · rw [if_neg (by simpa using a2)]
      have hcm : ∃ r : Tm × Int, r = cmW w.wd w.ctx (fun i x => argW w.wd m i x w.ctx) m ∧ mayB r.1 = true ∧ ((m.kind = 0 ∨ m.kind = 1 ∨ m.kind = 2) ∧ r = (zT, 3) ∨
          m.kind = 4 ∧ (∃ h, (lim C).call 63 [dW w, dT m] [] = some (.ret (.tup [dT r.1, dI r.2]), h)) ∨
          m.kind = 5 ∧ (∃ h, (lim C).call 64 [dW w, dT m] [] = some (.ret (.tup [dT r.1, dI r.2]), h)) ∨
          m.kind = 6 ∧ (∃ h, (lim C).call 65 [dW w, dT m] [] = some (.ret (.tup [dT r.1, dI r.2]), h))) := by
        refine ⟨_, rfl, cm_may hw (node_head (node_here hn)), ?_⟩
        rcases may_kind hm with k | k | k | k | k | k | k
        · left; exact ⟨.inl k, by unfold cmW; rw [if_neg (by omega), if_neg (by omega), if_neg (by omega)]⟩
        · left; exact ⟨.inr (.inl k), by unfold cmW; rw [if_neg (by omega), if_neg (by omega), if_neg (by omega)]⟩
        · left; exact ⟨.inr (.inr k), by unfold cmW; rw [if_neg (by omega), if_neg (by omega), if_neg (by omega)]⟩
        · exact absurd k k3
        · right; left; exact ⟨k, by rw [cm_var k]; exact cvar_spec hT⟩
        · right; right; left; exact ⟨k, by rw [cm_const k]; exact cconst_spec hT⟩
        · right; right; right; exact ⟨k, by rw [cm_meta k]; exact cmeta_spec hT⟩
      obtain ⟨r, hr1, hr2, hcs⟩ := hcm
      rw [← hr1]
      have hsm := tsame_spec r.1 (may_room hr2) a
      have a2' : (a.kind != 2) = false := by simpa using a2
      have hns := cnone_spec w m
      have her := (enc_eq r.1).symm
      have fin : ∀ g : Nat, (∃ h, (lim C).call g [dW w, dT m] [] = some (.ret (.tup [dT r.1, dI r.2]), h)) → True := fun _ _ => trivial
      obtain ⟨t, e⟩ := r
      simp only at hsm her hcs hr2
      refine ⟨[], ?_⟩
      rcases hcs with ⟨k, hz⟩ | ⟨k, h, hc⟩ | ⟨k, h, hc⟩ | ⟨k, h, hc⟩
      · obtain ⟨rfl, rfl⟩ : t = zT ∧ e = 3 := ⟨congrArg Prod.fst hz, congrArg Prod.snd hz⟩
        rcases k with k | k | k
        · have hek := hem
          rw [k] at hek
          rw [ev_fn 39 Try.f39 _ _ _ rfl Try.func39 rfl Try.ntmps39 rfl]
          simp -implicitDefEqProofs (disch := decide +kernel) only [go_sem, ↓reduceIte, Nat.reduceSub, Nat.reduceAdd, Nat.reduceMul, Nat.reduceBEq, Nat.reduceLT, Nat.reduceLeDiff, Nat.reduceEqDiff, reduceCtorEq, Int.reduceToNat, Int.reduceLE, Int.reduceLT, Int.reduceBEq, Int.reduceBNe, mCall, cells_encW, celW, cells_enc, cel3, k, a2', hek, hea, hns, (enc_eq zT).symm]
          rfl
        · have hek := hem
          rw [k] at hek
          rw [ev_fn 39 Try.f39 _ _ _ rfl Try.func39 rfl Try.ntmps39 rfl]
          simp -implicitDefEqProofs (disch := decide +kernel) only [go_sem, ↓reduceIte, Nat.reduceSub, Nat.reduceAdd, Nat.reduceMul, Nat.reduceBEq, Nat.reduceLT, Nat.reduceLeDiff, Nat.reduceEqDiff, reduceCtorEq, Int.reduceToNat, Int.reduceLE, Int.reduceLT, Int.reduceBEq, Int.reduceBNe, mCall, cells_encW, celW, cells_enc, cel3, k, a2', hek, hea, hns, (enc_eq zT).symm]
          rfl
        · have hek := hem
          rw [k] at hek
          rw [ev_fn 39 Try.f39 _ _ _ rfl Try.func39 rfl Try.ntmps39 rfl]
          simp -implicitDefEqProofs (disch := decide +kernel) only [go_sem, ↓reduceIte, Nat.reduceSub, Nat.reduceAdd, Nat.reduceMul, Nat.reduceBEq, Nat.reduceLT, Nat.reduceLeDiff, Nat.reduceEqDiff, reduceCtorEq, Int.reduceToNat, Int.reduceLE, Int.reduceLT, Int.reduceBEq, Int.reduceBNe, mCall, cells_encW, celW, cells_enc, cel3, k, a2', hek, hea, hns, (enc_eq zT).symm]
          rfl
      all_goals
        have hek := hem
        rw [k] at hek
        by_cases he : e = 0
        · subst he
          have h00 : ((0 : Int) == 0) = true := rfl
          cases hs : sameB t a
          · rw [hs] at hsm
            rw [ev_fn 39 Try.f39 _ _ _ rfl Try.func39 rfl Try.ntmps39 rfl]
            simp -implicitDefEqProofs (disch := decide +kernel) only [go_sem, ↓reduceIte, Nat.reduceSub, Nat.reduceAdd, Nat.reduceMul, Nat.reduceBEq, Nat.reduceLT, Nat.reduceLeDiff, Nat.reduceEqDiff, reduceCtorEq, Int.reduceToNat, Int.reduceLE, Int.reduceLT, Int.reduceBEq, Int.reduceBNe, mCall, cells_encW, celW, cells_enc, cel3, k, a2', hek, hea, hc, her, h00, hsm]
            rfl
          · rw [hs] at hsm
            rw [ev_fn 39 Try.f39 _ _ _ rfl Try.func39 rfl Try.ntmps39 rfl]
            simp -implicitDefEqProofs (disch := decide +kernel) only [go_sem, ↓reduceIte, Nat.reduceSub, Nat.reduceAdd, Nat.reduceMul, Nat.reduceBEq, Nat.reduceLT, Nat.reduceLeDiff, Nat.reduceEqDiff, reduceCtorEq, Int.reduceToNat, Int.reduceLE, Int.reduceLT, Int.reduceBEq, Int.reduceBNe, mCall, cells_encW, celW, cells_enc, cel3, k, a2', hek, hea, hc, her, h00, hsm]
            rfl
        · have he' : (e == 0) = false := by simpa using he
          rw [if_pos (by simpa using he)]
          rw [ev_fn 39 Try.f39 _ _ _ rfl Try.func39 rfl Try.ntmps39 rfl]
          simp -implicitDefEqProofs (disch := decide +kernel) only [go_sem, ↓reduceIte, Nat.reduceSub, Nat.reduceAdd, Nat.reduceMul, Nat.reduceBEq, Nat.reduceLT, Nat.reduceLeDiff, Nat.reduceEqDiff, reduceCtorEq, Int.reduceToNat, Int.reduceLE, Int.reduceLT, Int.reduceBEq, Int.reduceBNe, mCall, cells_encW, celW, cells_enc, cel3, k, a2', hek, hea, hc, her, he']
    · rw [if_pos (by simpa using a2)]
      have a2' : (a.kind != 2) = true := by simpa using a2
      refine ⟨[], ?_⟩
      rw [ev_fn 39 Try.f39 _ _ _ rfl Try.func39 rfl Try.ntmps39 rfl]
      simp -implicitDefEqProofs (disch := decide +kernel) only [go_sem, ↓reduceIte, Nat.reduceSub, Nat.reduceAdd, Nat.reduceMul, Nat.reduceBEq, Nat.reduceLT, Nat.reduceLeDiff, Nat.reduceEqDiff, reduceCtorEq, Int.reduceToNat, Int.reduceLE, Int.reduceLT, Int.reduceBEq, Int.reduceBNe, mCall, cells_encW, celW, cells_enc, cel3, k3', a2', hem, hea]
end Go.Proofs.Ytkmpfdecjmnccaa
/- The package check: types, kinds, and all from outside. -/
set_option linter.unusedSimpArgs false
set_option linter.unusedVariables false
set_option maxRecDepth 100000
namespace Go.Proofs.Ytkmpfdecjmnccaa
open Go.Proofs
theorem cboth_spec {w : Wo} {t : Tm} {g : Nat} {e e' : Int} {h h' : List HO} (hg : C.thr.contains g = false) (hl : t.args.length = 2) (hcl : w.ctx.length < room)
    (h1 : (lim C).call 38 [dW w, dT (t.arg 0)] [] = some (.ret (dI e), h))
    (h2 : e = 0 → (lim C).call g [dW (w.with (t.arg 0)), dT (t.arg 1)] [] = some (.ret (dI e'), h')) :
    (lim C).call 58 [dW w, dT t, .fn g [] []] [] = some (.ret (dI (if e ≠ 0 then e else e')), []) := by
  simp only [C_thr, List.contains_cons, List.contains_nil, Bool.or_false] at hg
  have e0 : t.args[0]? = some (t.arg 0) := arg_get (by omega)
  have e1 : t.args[1]? = some (t.arg 1) := arg_get (by omega)
  have hwith := cwith_spec w (t.arg 0) hcl
  by_cases he : e = 0
  · subst he
    have h2 := h2 rfl
    have h00 : ((0 : Int) != 0) = false := rfl
    rw [if_neg (by simp)]
    rw [ev_fn 58 Try.f58 _ _ _ rfl Try.func58 rfl Try.ntmps58 rfl]
    simp -implicitDefEqProofs (disch := decide +kernel) only [go_sem, ↓reduceIte, Nat.reduceSub, Nat.reduceAdd, Nat.reduceMul, Nat.reduceBEq, Nat.reduceLT, Nat.reduceLeDiff, Nat.reduceEqDiff, reduceCtorEq, Int.reduceToNat, Int.reduceLE, Int.reduceLT, Int.reduceBEq, Int.reduceBNe, mCall, hg, cells_encW, celW, cells_enc, cel3, e0, e1, h1, h00, hwith, h2, (enc_eq (t.arg 0)).symm, (enc_eq (t.arg 1)).symm]
  · have he' : (e != 0) = true := by simpa using he
    rw [if_pos he]
    rw [ev_fn 58 Try.f58 _ _ _ rfl Try.func58 rfl Try.ntmps58 rfl]
    simp -implicitDefEqProofs (disch := decide +kernel) only [go_sem, ↓reduceIte, Nat.reduceSub, Nat.reduceAdd, Nat.reduceMul, Nat.reduceBEq, Nat.reduceLT, Nat.reduceLeDiff, Nat.reduceEqDiff, reduceCtorEq, Int.reduceToNat, Int.reduceLE, Int.reduceLT, Int.reduceBEq, Int.reduceBNe, mCall, hg, cells_encW, celW, cells_enc, cel3, e0, e1, h1, he', (enc_eq (t.arg 0)).symm, (enc_eq (t.arg 1)).symm]
theorem node_ok {w : Wo} {m : Tm} {K : Int} (hm : mayB m = true) (hw : WOk K w m.size) (hK : K + 4000000 * (m.size : Int) ≤ topV) : NodeOk w m K := ⟨fun i hi x hx hvx => by
    have hal := arg_len hi
    have h0 := hw.h0
    obtain ⟨h, hc⟩ := cterm_spec _ (may_argm (arg_mem hi) hm) w x (K + 2000000 * ((i : Int) + 1)) (hw.mono (by omega) (by omega)) (by omega) hx hvx
    exact ⟨h, by rw [argW_lt hi]; exact hc⟩, hm, hw, hK⟩
theorem typ_vle {K : Int} {w : Wo} {a : Tm} (hw : WOk K w (a.size + 1)) (ha : mayB a = true) (h : typW w.wd a w.ctx = 0) : vleB K a = true := by
  have hc := hw.cl
  have hk := hw.hk
  exact vle_mono (by omega) (scoped_vle _ _ _ (typ_scoped w.wd _ _ (may_parts ha).1 h))
set_option maxHeartbeats 4000000 in
theorem ctyp_spec : ∀ a : Tm, mayB a = true → ∀ (w : Wo) (K : Int), WOk K w a.size → K + 4000000 * (a.size : Int) ≤ topV →
    ∃ h, (lim C).call 38 [dW w, dT a] [] = some (.ret (dI (typW w.wd a w.ctx)), h) := by
  refine Tm.ind fun a ih ha w K hw hK => ?_
  have hr : room = 1099511627776 := rfl
  have hn := (may_parts ha).1
  have hcl := hw.cl
  have hsp := size_pos a
  have hea := (enc_eq a).symm
  have h0 := hw.h0
  by_cases k1 : a.kind = 1
  · have hl := pi_len hn k1
    rw [typW_pi _ k1 (by omega)]
    have hz0 := arg_len (m := a) (i := 0) (by omega)
    have hz1 := arg_len (m := a) (i := 1) (by omega)
    have m0 := may_argm (arg_mem (t := a) (i := 0) (by omega)) ha
    have m1 := may_argm (arg_mem (t := a) (i := 1) (by omega)) ha
    obtain ⟨h, hc⟩ := ih _ (arg_mem (t := a) (i := 0) (by omega)) m0 w K (hw.mono (Int.le_refl K) (by omega)) (by omega)
    have hwhen : ∃ h', typW w.wd (a.arg 0) w.ctx = 0 → (lim C).call 38 [dW (w.with (a.arg 0)), dT (a.arg 1)] [] = some (.ret (dI (typW w.wd (a.arg 1) (w.ctx ++ [a.arg 0]))), h') := by
      by_cases h0 : typW w.wd (a.arg 0) w.ctx = 0
      · have hww : WOk K (w.with (a.arg 0)) (a.arg 1).size := (hw.mono (Int.le_refl K) (by omega)).with m0 (typ_vle (hw.mono (Int.le_refl K) (by omega)) m0 h0)
        obtain ⟨h', hc'⟩ := ih _ (arg_mem (t := a) (i := 1) (by omega)) m1 (w.with (a.arg 0)) K hww (by omega)
        exact ⟨h', fun _ => hc'⟩
      · exact ⟨[], fun e => absurd e h0⟩
    obtain ⟨h', hc'⟩ := hwhen
    have hb := cboth_spec (w := w) (t := a) (by decide +kernel) hl (by omega) hc hc'
    generalize (if typW w.wd (a.arg 0) w.ctx ≠ 0 then typW w.wd (a.arg 0) w.ctx else typW w.wd (a.arg 1) (w.ctx ++ [a.arg 0])) = r at hb ⊢
    refine ⟨[], ?_⟩
    rw [k1] at hea
    rw [ev_fn 38 Try.f38 _ _ _ rfl Try.func38 rfl Try.ntmps38 rfl]
    simp -implicitDefEqProofs (disch := decide +kernel) only [go_sem, ↓reduceIte, Nat.reduceSub, Nat.reduceAdd, Nat.reduceMul, Nat.reduceBEq, Nat.reduceLT, Nat.reduceLeDiff, Nat.reduceEqDiff, reduceCtorEq, Int.reduceToNat, Int.reduceLE, Int.reduceLT, Int.reduceBEq, Int.reduceBNe, mCall, cells_encW, celW, cells_enc, cel3, k1, hea, hb]
  · by_cases k2 : a.kind = 2
    · rw [typW_fam _ k2]
      have hh := node_head (node_here hn)
      have hT := node_ok ha hw hK
      have hd := cdecl_spec w a.head true hh
      have hp : (declW w.wd a.head true).2 = 0 → mayB (declW w.wd a.head true).1 = true ∧ vleB (K + 2000000) (declW w.wd a.head true).1 = true := fun e => by
        obtain ⟨e1, e2, e3⟩ := declW_ok e
        rw [e3]
        have hlt : a.head.toNat < w.sig.length := by simp [Wo.wd] at e1; omega
        have hg : w.wd.sig.getD a.head.toNat default = (Dcs.at w.sig a.head.toNat).t := getD_sig hlt
        rw [hg]
        have := hw.sig _ (dat_mem hlt)
        exact ⟨this.1, vle_mono (by omega) this.2⟩
      unfold famW
      refine ⟨[], ?_⟩
      generalize declW w.wd a.head true = q at hd hp ⊢
      obtain ⟨t, e⟩ := q
      rw [ev_fn 38 Try.f38 _ _ _ rfl Try.func38 rfl Try.ntmps38 rfl]
      by_cases he : e = 0
      · subst he
        obtain ⟨p1, p2⟩ := hp rfl
        obtain ⟨h, hs⟩ := hT.spine p1 p2
        rw [spD_go (by rfl)]
        have hs : _ = some (CR.ret (.tup [dT (spW (fun i x => argW w.wd a i x w.ctx) a.arg a.args.length 0 t).1, dI (spW (fun i x => argW w.wd a i x w.ctx) a.arg a.args.length 0 t).2]), h) := hs
        generalize spW (fun i x => argW w.wd a i x w.ctx) a.arg a.args.length 0 t = r at hs ⊢
        have h00 : ((0 : Int) == 0) = true := rfl
        by_cases he2 : r.2 = 0
        · have he2' : (r.2 == 0) = true := by simpa using he2
          rw [if_neg (by simpa using he2)]
          by_cases hk : r.1.kind = 0
          · have hk' : (r.1.kind != 0) = false := by simpa using hk
            rw [if_neg (by simpa using hk)]
            simp -implicitDefEqProofs (disch := decide +kernel) only [go_sem, ↓reduceIte, Nat.reduceSub, Nat.reduceAdd, Nat.reduceMul, Nat.reduceBEq, Nat.reduceLT, Nat.reduceLeDiff, Nat.reduceEqDiff, reduceCtorEq, Int.reduceToNat, Int.reduceLE, Int.reduceLT, Int.reduceBEq, Int.reduceBNe, mCall, cells_encW, celW, cells_enc, cel3, k2, hea, hd, h00, hs, he2', hk', he2, (enc_eq t).symm]
          · have hk' : (r.1.kind != 0) = true := by simpa using hk
            rw [if_pos (by simpa using hk)]
            simp -implicitDefEqProofs (disch := decide +kernel) only [go_sem, ↓reduceIte, Nat.reduceSub, Nat.reduceAdd, Nat.reduceMul, Nat.reduceBEq, Nat.reduceLT, Nat.reduceLeDiff, Nat.reduceEqDiff, reduceCtorEq, Int.reduceToNat, Int.reduceLE, Int.reduceLT, Int.reduceBEq, Int.reduceBNe, mCall, cells_encW, celW, cells_enc, cel3, k2, hea, hd, h00, hs, he2', hk', (enc_eq t).symm]
        · have he2' : (r.2 == 0) = false := by simpa using he2
          rw [if_pos (by simpa using he2)]
          simp -implicitDefEqProofs (disch := decide +kernel) only [go_sem, ↓reduceIte, Nat.reduceSub, Nat.reduceAdd, Nat.reduceMul, Nat.reduceBEq, Nat.reduceLT, Nat.reduceLeDiff, Nat.reduceEqDiff, reduceCtorEq, Int.reduceToNat, Int.reduceLE, Int.reduceLT, Int.reduceBEq, Int.reduceBNe, mCall, cells_encW, celW, cells_enc, cel3, k2, hea, hd, h00, hs, he2', (enc_eq t).symm]
      · have hs : spD (fun i x => argW w.wd a i x w.ctx) a (t, e) = (zT, e) := by unfold spD; rw [if_pos he]
        have he' : (e == 0) = false := by simpa using he
        rw [hs, if_pos (by simpa using he)]
        simp -implicitDefEqProofs (disch := decide +kernel) only [go_sem, ↓reduceIte, Nat.reduceSub, Nat.reduceAdd, Nat.reduceMul, Nat.reduceBEq, Nat.reduceLT, Nat.reduceLeDiff, Nat.reduceEqDiff, reduceCtorEq, Int.reduceToNat, Int.reduceLE, Int.reduceLT, Int.reduceBEq, Int.reduceBNe, mCall, cells_encW, celW, cells_enc, cel3, k2, hea, hd, he', (enc_eq t).symm]
    · rw [typW_no _ k1 k2]
      have k1' : (a.kind == 1) = false := by simpa using k1
      have k2' : (a.kind == 2) = false := by simpa using k2
      refine ⟨[], ?_⟩
      rw [ev_fn 38 Try.f38 _ _ _ rfl Try.func38 rfl Try.ntmps38 rfl]
      simp -implicitDefEqProofs (disch := decide +kernel) only [go_sem, ↓reduceIte, Nat.reduceSub, Nat.reduceAdd, Nat.reduceMul, Nat.reduceBEq, Nat.reduceLT, Nat.reduceLeDiff, Nat.reduceEqDiff, reduceCtorEq, Int.reduceToNat, Int.reduceLE, Int.reduceLT, Int.reduceBEq, Int.reduceBNe, mCall, cells_encW, celW, cells_enc, cel3, k1', k2', hea]
theorem ckind_spec : ∀ a : Tm, mayB a = true → ∀ (w : Wo) (K : Int), WOk K w a.size → K + 4000000 * (a.size : Int) ≤ topV →
    ∃ h, (lim C).call 49 [dW w, dT a] [] = some (.ret (dI (kindW w.wd a w.ctx)), h) := by
  refine Tm.ind fun a ih ha w K hw hK => ?_
  have hr : room = 1099511627776 := rfl
  have hn := (may_parts ha).1
  have hcl := hw.cl
  have hsp := size_pos a
  have hea := (enc_eq a).symm
  by_cases k0 : a.kind = 0
  · rw [kindW_sort _ k0]
    refine ⟨[], ?_⟩
    rw [ev_fn 49 Try.f49 _ _ _ rfl Try.func49 rfl Try.ntmps49 rfl]
    simp -implicitDefEqProofs (disch := decide +kernel) only [go_sem, ↓reduceIte, Nat.reduceSub, Nat.reduceAdd, Nat.reduceMul, Nat.reduceBEq, Nat.reduceLT, Nat.reduceLeDiff, Nat.reduceEqDiff, reduceCtorEq, Int.reduceToNat, Int.reduceLE, Int.reduceLT, Int.reduceBEq, Int.reduceBNe, mCall, cells_encW, celW, cells_enc, cel3, k0, hea]
  by_cases k1 : a.kind = 1
  · have hl := pi_len hn k1
    rw [kindW_pi _ k1 (by omega)]
    have hz0 := arg_len (m := a) (i := 0) (by omega)
    have hz1 := arg_len (m := a) (i := 1) (by omega)
    have m0 := may_argm (arg_mem (t := a) (i := 0) (by omega)) ha
    have m1 := may_argm (arg_mem (t := a) (i := 1) (by omega)) ha
    obtain ⟨h, hc⟩ := ctyp_spec _ m0 w K (hw.mono (Int.le_refl K) (by omega)) (by omega)
    have hwhen : ∃ h', typW w.wd (a.arg 0) w.ctx = 0 → (lim C).call 49 [dW (w.with (a.arg 0)), dT (a.arg 1)] [] = some (.ret (dI (kindW w.wd (a.arg 1) (w.ctx ++ [a.arg 0]))), h') := by
      by_cases h0 : typW w.wd (a.arg 0) w.ctx = 0
      · have hww : WOk K (w.with (a.arg 0)) (a.arg 1).size := (hw.mono (Int.le_refl K) (by omega)).with m0 (typ_vle (hw.mono (Int.le_refl K) (by omega)) m0 h0)
        obtain ⟨h', hc'⟩ := ih _ (arg_mem (t := a) (i := 1) (by omega)) m1 (w.with (a.arg 0)) K hww (by omega)
        exact ⟨h', fun _ => hc'⟩
      · exact ⟨[], fun e => absurd e h0⟩
    obtain ⟨h', hc'⟩ := hwhen
    have hb := cboth_spec (w := w) (t := a) (by decide +kernel) hl (by omega) hc hc'
    generalize (if typW w.wd (a.arg 0) w.ctx ≠ 0 then typW w.wd (a.arg 0) w.ctx else kindW w.wd (a.arg 1) (w.ctx ++ [a.arg 0])) = r at hb ⊢
    refine ⟨[], ?_⟩
    rw [k1] at hea
    rw [ev_fn 49 Try.f49 _ _ _ rfl Try.func49 rfl Try.ntmps49 rfl]
    simp -implicitDefEqProofs (disch := decide +kernel) only [go_sem, ↓reduceIte, Nat.reduceSub, Nat.reduceAdd, Nat.reduceMul, Nat.reduceBEq, Nat.reduceLT, Nat.reduceLeDiff, Nat.reduceEqDiff, reduceCtorEq, Int.reduceToNat, Int.reduceLE, Int.reduceLT, Int.reduceBEq, Int.reduceBNe, mCall, cells_encW, celW, cells_enc, cel3, k1, hea, hb]
  · rw [kindW_no _ k0 k1]
    have k0' : (a.kind == 0) = false := by simpa using k0
    have k1' : (a.kind == 1) = false := by simpa using k1
    refine ⟨[], ?_⟩
    rw [ev_fn 49 Try.f49 _ _ _ rfl Try.func49 rfl Try.ntmps49 rfl]
    simp -implicitDefEqProofs (disch := decide +kernel) only [go_sem, ↓reduceIte, Nat.reduceSub, Nat.reduceAdd, Nat.reduceMul, Nat.reduceBEq, Nat.reduceLT, Nat.reduceLeDiff, Nat.reduceEqDiff, reduceCtorEq, Int.reduceToNat, Int.reduceLE, Int.reduceLT, Int.reduceBEq, Int.reduceBNe, mCall, cells_encW, celW, cells_enc, cel3, k0', k1', hea]
structure WIn (K : Int) (w : Wo) : Prop where
  sz : WSz w
  hk : 2097152 ≤ K
  top : K + 20000000000 ≤ topV
  ctx : ∀ x ∈ w.ctx, vleB K x = true
  sig : ∀ d ∈ w.sig, vleB K d.t = true
  metas : ∀ d ∈ w.metas, vleB K d.t = true ∧ ∀ x ∈ d.ctx, vleB K x = true
theorem WIn.h0 {K : Int} {w : Wo} (h : WIn K w) : 0 ≤ K := by have := h.hk; omega
theorem WIn.ok {K : Int} {w : Wo} (h : WIn K w) {l : List Tm} (hm : mayW w.wd w.ctx l = true) : WOk K w 4001 ∧ ∀ x ∈ l, mayB x = true := by
  have h0 := h.h0
  have hz := h.sz
  rw [mayW_eq] at hm
  simp only [Bool.and_eq_true, Bool.not_eq_true', decide_eq_false_iff_not, allB_iff] at hm
  obtain ⟨⟨⟨⟨m1, m2⟩, m3⟩, m4⟩, m5⟩ := hm
  refine ⟨⟨h.hk, by omega, fun x hx => ⟨maysB_iff.1 m3 x hx, h.ctx x hx⟩, hz.sl, fun d hd => ?_, hz.ml, fun d hd => ?_⟩, maysB_iff.1 m2⟩
  · obtain ⟨i, hi, rfl⟩ := List.mem_iff_getElem.1 hd
    have := m4 i hi
    have he : Dcs.at w.sig i = w.sig[i] := by simp [Dcs.at, List.getD, List.getElem?_eq_getElem hi]
    rw [he] at this
    exact ⟨this, h.sig _ hd⟩
  · obtain ⟨i, hi, rfl⟩ := List.mem_iff_getElem.1 hd
    have := m5 i hi
    have he : w.metas.getD i default = w.metas[i] := by simp [List.getD, List.getElem?_eq_getElem hi]
    rw [he] at this
    exact ⟨⟨this.1, (h.metas _ hd).1⟩, (hz.mz _ hd).2.1, fun x hx => ⟨maysB_iff.1 this.2 x hx, (h.metas _ hd).2 x hx⟩⟩
theorem cTerm_spec {K : Int} {w : Wo} (h : WIn K w) (m a : Tm) (hm : m.size < room) (ha : a.size < room) (hva : vleB K a = true) :
    ∃ h, (lim C).call 16 [dDs w.sig, dMs w.metas, dL w.ctx, dT m, dT a] [] = some (.ret (dI (TermR w.wd w.ctx m a)), h) := by
  have hr : room = 1099511627776 := rfl
  have ht := h.top
  have hw := encW_fold w.sig w.metas w.ctx
  obtain ⟨hh, hc⟩ := cmay_spec w [m, a] h.sz (by simp; omega) (by simp; exact ⟨hm, ha⟩)
  have hl2 : Dv.slc [enc m, enc a] = .slc (encs [m, a]) := rfl
  have hl2' : [enc m, enc a] = encs [m, a] := rfl
  refine ⟨[], ?_⟩
  unfold TermR
  rw [ev_fn 16 Try.f16 _ _ _ rfl Try.func16 rfl Try.ntmps16 rfl]
  cases hmw : mayW w.wd w.ctx [m, a]
  · rw [hmw] at hc
    simp -implicitDefEqProofs (disch := decide +kernel) only [go_sem, ↓reduceIte, Nat.reduceSub, Nat.reduceAdd, Nat.reduceMul, Nat.reduceBEq, Nat.reduceLT, Nat.reduceLeDiff, Nat.reduceEqDiff, reduceCtorEq, Int.reduceToNat, Int.reduceLE, Int.reduceLT, Int.reduceBEq, Int.reduceBNe, mCall, hw, hc, hl2', cells_encW, celW, cells_enc, cel3, (enc_eq m).symm, (enc_eq a).symm]
  · rw [hmw] at hc
    obtain ⟨o1, o2⟩ := h.ok hmw
    have hms := (may_parts (o2 m (by simp))).2.1
    obtain ⟨h', hcc⟩ := cterm_spec m (o2 m (by simp)) w a K (o1.mono (Int.le_refl K) (by omega)) (by omega) (o2 a (by simp)) hva
    rw [if_pos rfl]
    simp -implicitDefEqProofs (disch := decide +kernel) only [go_sem, ↓reduceIte, Nat.reduceSub, Nat.reduceAdd, Nat.reduceMul, Nat.reduceBEq, Nat.reduceLT, Nat.reduceLeDiff, Nat.reduceEqDiff, reduceCtorEq, Int.reduceToNat, Int.reduceLE, Int.reduceLT, Int.reduceBEq, Int.reduceBNe, mCall, hw, hc, hcc, hl2', cells_encW, celW, cells_enc, cel3, (enc_eq m).symm, (enc_eq a).symm]
theorem cType_spec {K : Int} {w : Wo} (h : WIn K w) (a : Tm) (ha : a.size < room) :
    ∃ h, (lim C).call 15 [dDs w.sig, dMs w.metas, dL w.ctx, dT a] [] = some (.ret (dI (TypR w.wd w.ctx a)), h) := by
  have hr : room = 1099511627776 := rfl
  have ht := h.top
  have hw := encW_fold w.sig w.metas w.ctx
  obtain ⟨hh, hc⟩ := cmay_spec w [a] h.sz (by simp; omega) (by simpa using ha)
  have hl2' : [enc a] = encs [a] := rfl
  refine ⟨[], ?_⟩
  unfold TypR
  rw [ev_fn 15 Try.f15 _ _ _ rfl Try.func15 rfl Try.ntmps15 rfl]
  cases hmw : mayW w.wd w.ctx [a]
  · rw [hmw] at hc
    simp -implicitDefEqProofs (disch := decide +kernel) only [go_sem, ↓reduceIte, Nat.reduceSub, Nat.reduceAdd, Nat.reduceMul, Nat.reduceBEq, Nat.reduceLT, Nat.reduceLeDiff, Nat.reduceEqDiff, reduceCtorEq, Int.reduceToNat, Int.reduceLE, Int.reduceLT, Int.reduceBEq, Int.reduceBNe, mCall, hw, hc, hl2', cells_encW, celW, cells_enc, cel3, (enc_eq a).symm]
  · rw [hmw] at hc
    obtain ⟨o1, o2⟩ := h.ok hmw
    have hms := (may_parts (o2 a (by simp))).2.1
    obtain ⟨h', hcc⟩ := ctyp_spec a (o2 a (by simp)) w K (o1.mono (Int.le_refl K) (by omega)) (by omega)
    rw [if_pos rfl]
    simp -implicitDefEqProofs (disch := decide +kernel) only [go_sem, ↓reduceIte, Nat.reduceSub, Nat.reduceAdd, Nat.reduceMul, Nat.reduceBEq, Nat.reduceLT, Nat.reduceLeDiff, Nat.reduceEqDiff, reduceCtorEq, Int.reduceToNat, Int.reduceLE, Int.reduceLT, Int.reduceBEq, Int.reduceBNe, mCall, hw, hc, hcc, hl2', cells_encW, celW, cells_enc, cel3, (enc_eq a).symm]
theorem cKind_spec {K : Int} {w : Wo} (h : WIn K w) (a : Tm) (ha : a.size < room) :
    ∃ h, (lim C).call 31 [dDs w.sig, dMs w.metas, dL w.ctx, dT a] [] = some (.ret (dI (KindR w.wd w.ctx a)), h) := by
  have hr : room = 1099511627776 := rfl
  have ht := h.top
  have hw := encW_fold w.sig w.metas w.ctx
  obtain ⟨hh, hc⟩ := cmay_spec w [a] h.sz (by simp; omega) (by simpa using ha)
  have hl2' : [enc a] = encs [a] := rfl
  refine ⟨[], ?_⟩
  unfold KindR
  rw [ev_fn 31 Try.f31 _ _ _ rfl Try.func31 rfl Try.ntmps31 rfl]
  cases hmw : mayW w.wd w.ctx [a]
  · rw [hmw] at hc
    simp -implicitDefEqProofs (disch := decide +kernel) only [go_sem, ↓reduceIte, Nat.reduceSub, Nat.reduceAdd, Nat.reduceMul, Nat.reduceBEq, Nat.reduceLT, Nat.reduceLeDiff, Nat.reduceEqDiff, reduceCtorEq, Int.reduceToNat, Int.reduceLE, Int.reduceLT, Int.reduceBEq, Int.reduceBNe, mCall, hw, hc, hl2', cells_encW, celW, cells_enc, cel3, (enc_eq a).symm]
  · rw [hmw] at hc
    obtain ⟨o1, o2⟩ := h.ok hmw
    have hms := (may_parts (o2 a (by simp))).2.1
    obtain ⟨h', hcc⟩ := ckind_spec a (o2 a (by simp)) w K (o1.mono (Int.le_refl K) (by omega)) (by omega)
    rw [if_pos rfl]
    simp -implicitDefEqProofs (disch := decide +kernel) only [go_sem, ↓reduceIte, Nat.reduceSub, Nat.reduceAdd, Nat.reduceMul, Nat.reduceBEq, Nat.reduceLT, Nat.reduceLeDiff, Nat.reduceEqDiff, reduceCtorEq, Int.reduceToNat, Int.reduceLE, Int.reduceLT, Int.reduceBEq, Int.reduceBNe, mCall, hw, hc, hcc, hl2', cells_encW, celW, cells_enc, cel3, (enc_eq a).symm]
end Go.Proofs.Ytkmpfdecjmnccaa
/- Laws of layer 10: the example, Few. -/
set_option linter.unusedSimpArgs false
set_option linter.unusedVariables false
set_option maxRecDepth 100000
namespace Go.Proofs.Ytkmpfdecjmnccaa
open Go.Proofs
def tNat : Tm := .mk 2 0 []
def tZ : Tm := .mk 5 1 []
def tSZ : Tm := .mk 5 2 [tZ]
def tPi : Tm := .mk 1 0 [tNat, tNat]
def natSig : List Dc := [⟨⟨#[110, 97, 116]⟩, zT⟩, ⟨⟨#[122]⟩, tNat⟩, ⟨⟨#[115]⟩, tPi⟩]
theorem mk_depth (k h : Int) (l : List Tm) : (Tm.mk k h l).depth = 1 + (l.map Tm.depth).foldr max 0 := by rw [depth_eq]; rfl
theorem small_may {k h : Int} {l : List Tm} (h1 : nodeOk (.mk k h l) = true) (h2 : ∀ x ∈ l, mayB x = true) (h3 : (Tm.mk k h l).size ≤ 4000) (h4 : (Tm.mk k h l).depth ≤ 60) : mayB (.mk k h l) = true :=
  may_of (nodes_mk h1 fun x hx => (may_parts (h2 x hx)).1) h3 h4
theorem tNat_may : mayB tNat = true := leaf_may rfl (by decide)
theorem tZ_may : mayB tZ = true := leaf_may rfl (by decide)
theorem tSZ_may : mayB tSZ = true := small_may (by decide) (by simpa using tZ_may) (by simp [mk_size, tZ]) (by simp [mk_depth, tZ])
theorem tPi_may : mayB tPi = true := small_may (by decide) (by simpa using tNat_may) (by simp [mk_size, tNat]) (by simp [mk_depth, tNat])
theorem leaf_vle {k h K : Int} (hk : k ≠ 4) : vleB K (.mk k h []) = true := vle_mk (fun e => absurd e hk) (by simp)
theorem tNat_vle : vleB 0 tNat = true := leaf_vle (by decide)
theorem tZ_vle : vleB 0 tZ = true := leaf_vle (by decide)
theorem tSZ_vle : vleB 0 tSZ = true := vle_mk (fun e => by cases e) (by simpa using tZ_vle)
theorem tPi_vle : vleB 0 tPi = true := vle_mk (fun e => by cases e) (by simpa using tNat_vle)
def natW : Wo := ⟨natSig, [], []⟩
theorem natW_in : WIn 2097152 natW := by
  have hr : room = 1099511627776 := rfl
  have htv : topV = 1125899906842624 := rfl
  refine ⟨⟨by decide, by simp [natW], by decide, ?_, by decide, by simp [natW]⟩, by decide, by rw [htv]; decide, by simp [natW], ?_, by simp [natW]⟩
  · intro d hd
    simp only [natW, natSig, List.mem_cons, List.not_mem_nil, or_false] at hd
    rcases hd with rfl | rfl | rfl
    · exact may_room zT_may
    · exact may_room tNat_may
    · exact may_room tPi_may
  · intro d hd
    simp only [natW, natSig, List.mem_cons, List.not_mem_nil, or_false] at hd
    rcases hd with rfl | rfl | rfl
    · exact zT_vle _
    · exact vle_mono (by decide) tNat_vle
    · exact vle_mono (by decide) tPi_vle
theorem natW_may {l : List Tm} (h : ∀ x ∈ l, mayB x = true) : mayW natW.wd natW.ctx l = true := by
  rw [mayW_eq]
  have h1 : maysB l = true := maysB_iff.2 h
  have h2 : maysB natW.ctx = true := rfl
  have h3 : allB natW.sig.length (fun i => mayB (Dcs.at natW.sig i).t) = true := by
    rw [allB_iff]
    intro i hi
    have hi : i < 3 := hi
    rcases (show i = 0 ∨ i = 1 ∨ i = 2 by omega) with rfl | rfl | rfl
    · exact zT_may
    · exact tNat_may
    · exact tPi_may
  have h4 : allB natW.metas.length (fun i => mayB (natW.metas.getD i default).t && maysB (natW.metas.getD i default).ctx) = true := rfl
  rw [h1, h2, h3, h4]
  rfl
theorem leaf_last {k h : Int} : lastOf (.mk k h []) = .mk k h [] := lastOf_no (by simp [isPi, Tm.args])
theorem tPi_last : lastOf tPi = tNat := by
  rw [lastOf_pi (by decide)]
  exact leaf_last
theorem nat_decl0 : declW natW.wd 0 true = (zT, 0) := declW_go (by decide) (by show ((lastOf zT).kind == 0) = true; rw [show lastOf zT = zT from leaf_last]; rfl)
theorem nat_decl1 : declW natW.wd 1 false = (tNat, 0) := declW_go (by decide) (by show ((lastOf tNat).kind == 0) = false; rw [show lastOf tNat = tNat from leaf_last]; rfl)
theorem nat_decl2 : declW natW.wd 2 false = (tPi, 0) := declW_go (by decide) (by show ((lastOf tPi).kind == 0) = false; rw [tPi_last]; rfl)
theorem apply_leaf {k h : Int} {s : Sb} (hk : k ≠ 4) (hm : mayB (.mk k h []) = true) (hs : smayB s = true) : applyR (.mk k h []) s = (.mk k h [], 0) := by
  unfold applyR
  rw [hm, hs, Bool.and_self, if_pos rfl, ap_leaf 39999 k h s 0 (by decide), if_neg hk]
  simp only [outD, hm, if_true]
theorem nat_app {x : Tm} (hx : mayB x = true) : applyR tNat ⟨[x], 0⟩ = (tNat, 0) := apply_leaf (by decide) tNat_may (smay_of (by simp) (by decide) (by decide) (by simpa using hx))
theorem nat_Z : termW natW.wd tZ tNat [] = 0 := by
  refine term_go (by decide) rfl ?_
  rw [cm_const rfl, show tZ.head = 1 from rfl, nat_decl1]
  rfl
theorem nat_S {x : Tm} {c : List Tm} (hx : mayB x = true) (h : termW natW.wd x tNat c = 0) : termW natW.wd (.mk 5 2 [x]) tNat c = 0 := by
  refine term_go (show (5 : Int) ≠ 3 by decide) rfl ?_
  rw [cm_const rfl, show (Tm.mk 5 2 [x]).head = 2 from rfl, nat_decl2, spD_go rfl]
  show spW _ _ (0 + 1) 0 tPi = _
  have h1 : argW natW.wd (.mk 5 2 [x]) 0 (tPi.arg 0) c = 0 := by
    rw [argW_lt (show 0 < 1 by decide)]
    exact h
  have ha : applyR (tPi.arg 1) ⟨[(Tm.mk 5 2 [x]).arg 0], 0⟩ = (tNat, 0) := nat_app hx
  rw [spW_go rfl h1 (by rw [ha]), ha]
  rfl
theorem nat_1 : TermR natW.wd natW.ctx tSZ tNat = 0 := by
  unfold TermR
  rw [natW_may (by simp [tSZ_may, tNat_may]), if_pos rfl]
  exact nat_S tZ_may nat_Z
theorem nat_5 : TypR natW.wd natW.ctx tNat = 0 := by
  unfold TypR
  rw [natW_may (by simp [tNat_may]), if_pos rfl, typW_fam _ rfl]
  have hd : declW natW.wd tNat.head true = (zT, 0) := nat_decl0
  refine famW_go (by rw [hd]) ?_ ?_
  · rw [hd]; rfl
  · rw [hd]; rfl
theorem nat_spec : (lim C).call 23 [] [] = some (.ret (dDs natSig), []) := by
  have hz := zT_enc
  have h1 : Dv.agg [.int .i64 2, .int .i64 0, .slc []] = enc tNat := by rw [enc_eq]; rfl
  rw [ev_fn 23 Try.f23 _ _ _ rfl Try.func23 rfl Try.ntmps23 rfl]
  simp -implicitDefEqProofs (disch := decide +kernel) only [go_sem, ↓reduceIte, Nat.reduceSub, Nat.reduceAdd, Nat.reduceMul, Nat.reduceBEq, Nat.reduceLT, Nat.reduceLeDiff, Nat.reduceEqDiff, reduceCtorEq, Int.reduceToNat, Int.reduceLE, Int.reduceLT, Int.reduceBEq, Int.reduceBNe, mCall, h1, cells_enc]
  rfl
end Go.Proofs.Ytkmpfdecjmnccaa
/- Laws of layer 10: the example told, Few, CheckTerms. -/
set_option linter.unusedSimpArgs false
set_option linter.unusedVariables false
set_option maxRecDepth 100000
namespace Go.Proofs.Ytkmpfdecjmnccaa
open Go.Proofs
theorem tmc (k h : Int) (l : List Tm) {T : Tm} (e : T = .mk k h l) : Dv.agg [.int .i64 k, .int .i64 h, .slc (encs l)] = enc T := by rw [e, enc_mk]
def mdLight (d : Md) : Bool := lightsB d.ctx 500 80 && lightB d.t 500 80
def fewW (w : Wo) : Bool := fewB w.sig && !decide ((w.metas.length : Int) > 30) && allB w.metas.length (fun i => mdLight (w.metas.getD i default)) && lightsB w.ctx 500 80
def fw_S (w : Wo) (i : Nat) : St := mk 48 [(1, dMs w.metas), (2, dL w.ctx), (8, dI i)] [] [] []
theorem fewW_spec (w : Wo) (hw : WSz w) : (lim C).call 8 [dDs w.sig, dMs w.metas, dL w.ctx] [] = retB (fewW w) := by
  have hr : room = 1099511627776 := rfl
  have m1 := hw.ml
  have hf := few_spec w.sig hw.sl hw.sz
  have hloop : (lim C).code 8 (.loop (cf (cf (cs (cf (cs (cs (cs (bodyOf Try.f8))))))))) (fw_S w 0) = some (if allB w.metas.length (fun i => mdLight (w.metas.getD i default)) then (.exit 0, mk 48 [(1, dMs w.metas), (2, dL w.ctx), (8, dI w.metas.length), (24, dB false)] [] [] []) else (.ret, mk 48 [(6, dB false)] [] [] [])) := by
    refine loop_all (fw_S w) w.metas.length _ (fun k hk hp => ?_) (fun k hk hp => ?_) ?_ (by simp) (by simp)
    · obtain ⟨z1, z2, z3⟩ := hw.mz _ (mget_mem hk)
      have hc := light_spec (w.metas.getD k default).t 500 80 z1
      have hd := lights_spec (w.metas.getD k default).ctx 500 80 z2 z3
      simp only [mdLight, Bool.and_eq_true] at hp
      rw [hp.2] at hc
      rw [hp.1] at hd
      simp -implicitDefEqProofs (disch := decide +kernel) only [cf, cs, bodyOf, Try.f8, Option.getD_some, go_sem, ↓reduceIte, Nat.reduceSub, Nat.reduceAdd, Nat.reduceMul, Nat.reduceBEq, Nat.reduceLT, Nat.reduceLeDiff, Nat.reduceEqDiff, reduceCtorEq, Int.reduceToNat, Int.reduceLE, Int.reduceLT, Int.reduceBEq, Int.reduceBNe, mCall, fw_S, lt_true hk, mget_get hk, hc, hd, cells_encM, (enc_eq (w.metas.getD k default).t).symm, wrap_succ (n := k) (by omega)]
    · obtain ⟨z1, z2, z3⟩ := hw.mz _ (mget_mem hk)
      have hc := light_spec (w.metas.getD k default).t 500 80 z1
      have hd := lights_spec (w.metas.getD k default).ctx 500 80 z2 z3
      simp only [mdLight] at hp
      cases h2 : lightsB (w.metas.getD k default).ctx 500 80
      · rw [h2] at hd
        simp -implicitDefEqProofs (disch := decide +kernel) only [cf, cs, bodyOf, Try.f8, Option.getD_some, go_sem, ↓reduceIte, Nat.reduceSub, Nat.reduceAdd, Nat.reduceMul, Nat.reduceBEq, Nat.reduceLT, Nat.reduceLeDiff, Nat.reduceEqDiff, reduceCtorEq, Int.reduceToNat, Int.reduceLE, Int.reduceLT, Int.reduceBEq, Int.reduceBNe, mCall, fw_S, lt_true hk, mget_get hk, hc, hd, cells_encM, (enc_eq (w.metas.getD k default).t).symm]
      · rw [h2, Bool.true_and] at hp
        rw [hp] at hc
        rw [h2] at hd
        simp -implicitDefEqProofs (disch := decide +kernel) only [cf, cs, bodyOf, Try.f8, Option.getD_some, go_sem, ↓reduceIte, Nat.reduceSub, Nat.reduceAdd, Nat.reduceMul, Nat.reduceBEq, Nat.reduceLT, Nat.reduceLeDiff, Nat.reduceEqDiff, reduceCtorEq, Int.reduceToNat, Int.reduceLE, Int.reduceLT, Int.reduceBEq, Int.reduceBNe, mCall, fw_S, lt_true hk, mget_get hk, hc, hd, cells_encM, (enc_eq (w.metas.getD k default).t).symm]
    · simp -implicitDefEqProofs (disch := decide +kernel) only [cf, cs, bodyOf, Try.f8, Option.getD_some, go_sem, ↓reduceIte, Nat.reduceSub, Nat.reduceAdd, Nat.reduceMul, Nat.reduceBEq, Nat.reduceLT, Nat.reduceLeDiff, Nat.reduceEqDiff, reduceCtorEq, Int.reduceToNat, Int.reduceLE, Int.reduceLT, Int.reduceBEq, Int.reduceBNe, mCall, fw_S, lt_false (Nat.le_refl w.metas.length)]
  have hc1 := lights_spec w.ctx 500 80 hw.cl hw.cz
  unfold fewW
  rw [ev_fn 8 Try.f8 _ _ _ rfl Try.func8 rfl Try.ntmps8 rfl]
  cases k1 : fewB w.sig
  · rw [k1] at hf
    simp -implicitDefEqProofs (disch := decide +kernel) only [go_sem, ↓reduceIte, Nat.reduceSub, Nat.reduceAdd, Nat.reduceMul, Nat.reduceBEq, Nat.reduceLT, Nat.reduceLeDiff, Nat.reduceEqDiff, reduceCtorEq, Int.reduceToNat, Int.reduceLE, Int.reduceLT, Int.reduceBEq, Int.reduceBNe, mCall, hf]
  · rw [k1] at hf
    cases k2 : decide ((w.metas.length : Int) > 30)
    · cases k3 : allB w.metas.length (fun i => mdLight (w.metas.getD i default))
      · rw [k3] at hloop
        simp -implicitDefEqProofs (disch := decide +kernel) only [go_sem, ↓reduceIte, Nat.reduceSub, Nat.reduceAdd, Nat.reduceMul, Nat.reduceBEq, Nat.reduceLT, Nat.reduceLeDiff, Nat.reduceEqDiff, reduceCtorEq, Int.reduceToNat, Int.reduceLE, Int.reduceLT, Int.reduceBEq, Int.reduceBNe, mCall, hf, k2]
        rw [loop_at hloop ?hb ?hs]
        case hb => rfl
        case hs => rfl
        simp -implicitDefEqProofs (disch := decide +kernel) only [go_sem, ↓reduceIte, Nat.reduceSub, Nat.reduceAdd, Nat.reduceMul, Nat.reduceBEq, Nat.reduceLT, Nat.reduceLeDiff, Nat.reduceEqDiff, reduceCtorEq, Int.reduceToNat, Int.reduceLE, Int.reduceLT, Int.reduceBEq, Int.reduceBNe, mCall]
      · rw [k3] at hloop
        simp -implicitDefEqProofs (disch := decide +kernel) only [go_sem, ↓reduceIte, Nat.reduceSub, Nat.reduceAdd, Nat.reduceMul, Nat.reduceBEq, Nat.reduceLT, Nat.reduceLeDiff, Nat.reduceEqDiff, reduceCtorEq, Int.reduceToNat, Int.reduceLE, Int.reduceLT, Int.reduceBEq, Int.reduceBNe, mCall, hf, k2]
        rw [loop_at hloop ?hb ?hs]
        case hb => rfl
        case hs => rfl
        simp -implicitDefEqProofs (disch := decide +kernel) only [go_sem, ↓reduceIte, Nat.reduceSub, Nat.reduceAdd, Nat.reduceMul, Nat.reduceBEq, Nat.reduceLT, Nat.reduceLeDiff, Nat.reduceEqDiff, reduceCtorEq, Int.reduceToNat, Int.reduceLE, Int.reduceLT, Int.reduceBEq, Int.reduceBNe, mCall, hc1]
    · simp -implicitDefEqProofs (disch := decide +kernel) only [go_sem, ↓reduceIte, Nat.reduceSub, Nat.reduceAdd, Nat.reduceMul, Nat.reduceBEq, Nat.reduceLT, Nat.reduceLeDiff, Nat.reduceEqDiff, reduceCtorEq, Int.reduceToNat, Int.reduceLE, Int.reduceLT, Int.reduceBEq, Int.reduceBNe, mCall, hf, k2]
end Go.Proofs.Ytkmpfdecjmnccaa
/- Arguments of a law: declarations, as they are read. -/
set_option linter.unusedVariables false
set_option linter.unusedSimpArgs false
namespace Go.Proofs.Ytkmpfdecjmnccaa
open Go.Proofs Go.ChangeShapes
def dsum (l : List Dc) : Nat := (l.map fun d => d.t.size).sum + l.length
theorem dsum_len {l : List Dc} : l.length ≤ dsum l := by unfold dsum; omega
theorem dsum_mem {l : List Dc} {d : Dc} (h : d ∈ l) : d.t.size ≤ dsum l := by
  unfold dsum
  have := sum_mem (List.mem_map_of_mem (f := fun d : Dc => d.t.size) h)
  omega
section
variable {H : Type} {enc' : TypeId × Value → H} {W : World} {held : Bool}
theorem decl_read {fuel : Nat} {cs : List Value} {x : DataW H × List MemPlace} (h : DataW.trod enc' Try.prog W 0 (fun _ => true) held fuel 61 cs = some x) : ∃ d : Dc, dv x.1 = encD d ∧ Wf d.t ∧ d.t.size + 1 ≤ Rows.uptoBulk x.1 := by
  obtain ⟨xs, n, hn, rfl, hl, hxl, hg⟩ := DataW.trod_struct Try.underlying61 h
  obtain ⟨a, b, rfl⟩ : ∃ a b, xs = [a, b] := by
    match xs, hxl with
    | [a, b], _ => exact ⟨a, b, rfl⟩
  have h0 := hg 0 _ rfl
  have h1 := hg 1 _ rfl
  simp only [List.getElem?_cons_zero, List.getElem?_cons_succ] at h0 h1
  obtain ⟨s, _, rfl, _⟩ := DataW.trod_string Try.underlying9 h0
  obtain ⟨t, t1, t2, t3⟩ := tm_read _ _ _ h1
  refine ⟨⟨s, t⟩, ?_, t2, ?_⟩
  · simp only [List.map_cons, List.map_nil, dv, dcs, t1, Dv.cells, enc_cells, List.cons_append, List.nil_append, List.append_nil, encD]
    rw [enc_eq]
  · simp only [List.map_cons, List.map_nil, Rows.uptoBulk, Rows.uptoBulkAll]
    omega
theorem decls_arg {v : Value} {d : DataW H} {ps : List MemPlace} (h : DataW.Trod enc' Try.prog W 0 (fun _ => true) held 22 v d ps) : ∃ l : List Dc, dv d = .slc (encDs l) ∧ (∀ t ∈ l, Wf t.t) ∧ dsum l + 1 ≤ Rows.uptoBulk d := by
  obtain ⟨fuel, h⟩ := h
  rcases DataW.trod_slice Try.underlying22 h with ⟨_, hx⟩ | ⟨a, len, cap, elems, rest, n, hn, _, hx, _, hlc, _, hel, hget, _, _⟩
  · obtain rfl : d = .nil := congrArg Prod.fst hx
    exact ⟨[], rfl, by simp, by simp [Rows.uptoBulk, dsum]⟩
  · obtain rfl : d = _ := congrArg Prod.fst hx
    obtain ⟨l, h1, h2⟩ := list_of (P := fun (y : DataW H × List MemPlace) (t : Dc) => dv y.1 = encD t ∧ Wf t.t ∧ t.t.size + 1 ≤ Rows.uptoBulk y.1) elems fun y hy => by
      obtain ⟨i, hi⟩ := List.mem_iff_getElem?.1 hy
      have hlt := (List.getElem?_eq_some_iff.1 hi).1
      have := hget i (by omega)
      rw [hi] at this
      obtain ⟨cs, _, hx⟩ := Option.bind_eq_some_iff.1 this
      exact decl_read hx
    have key : ∀ (es : List (DataW H × List MemPlace)) (l : List Dc), l.length = es.length → (∀ (i : Nat) y t, es[i]? = some y → l[i]? = some t → dv y.1 = encD t ∧ Wf t.t ∧ t.t.size + 1 ≤ Rows.uptoBulk y.1) →
        dvs (es.map (·.1)) = encDs l ∧ (∀ t ∈ l, Wf t.t) ∧ dsum l ≤ Rows.uptoBulkAll (es.map (·.1)) := by
      intro es
      induction es with
      | nil =>
        intro l hl _
        obtain rfl : l = [] := List.eq_nil_of_length_eq_zero (by simpa using hl)
        exact ⟨rfl, by simp, by simp [dsum]⟩
      | cons y es ih =>
        intro l hl hp
        cases l with
        | nil => simp at hl
        | cons t l =>
          obtain ⟨k1, k2, k3⟩ := hp 0 y t rfl rfl
          obtain ⟨j1, j2, j3⟩ := ih l (by simpa using hl) fun i a b ha hb => hp (i + 1) a b (by simpa using ha) (by simpa using hb)
          refine ⟨?_, fun x hx => ?_, ?_⟩
          · simp only [List.map_cons, dvs, k1, j1]; rfl
          · rcases List.mem_cons.1 hx with rfl | hx
            · exact k2
            · exact j2 x hx
          · unfold dsum at j3 ⊢
            simp only [List.map_cons, List.sum_cons, Rows.uptoBulkAll, List.length_cons]
            omega
    obtain ⟨k1, k2, k3⟩ := key elems l h1 h2
    refine ⟨l, by simp only [dv, k1], k2, ?_⟩
    simp only [Rows.uptoBulk]
    omega
end
end Go.Proofs.Ytkmpfdecjmnccaa
/- Arguments of a law: metas, as they are read. -/
set_option linter.unusedVariables false
set_option linter.unusedSimpArgs false
namespace Go.Proofs.Ytkmpfdecjmnccaa
open Go.Proofs Go.ChangeShapes
def WfM (d : Md) : Prop := Wf d.t ∧ ∀ x ∈ d.ctx, Wf x
def mdsz (d : Md) : Nat := d.t.size + (d.ctx.map Tm.size).sum + 1
def msum (l : List Md) : Nat := (l.map mdsz).sum
section
variable {H : Type} {enc' : TypeId × Value → H} {W : World} {held : Bool}
theorem meta_read {fuel : Nat} {cs : List Value} {x : DataW H × List MemPlace} (h : DataW.trod enc' Try.prog W 0 (fun _ => true) held fuel 46 cs = some x) : ∃ d : Md, dv x.1 = encM d ∧ WfM d ∧ mdsz d ≤ Rows.uptoBulk x.1 := by
  obtain ⟨xs, n, hn, rfl, hl, hxl, hg⟩ := DataW.trod_struct Try.underlying46 h
  obtain ⟨a, b, c, rfl⟩ : ∃ a b c, xs = [a, b, c] := by
    match xs, hxl with
    | [a, b, c], _ => exact ⟨a, b, c, rfl⟩
  have h0 := hg 0 _ rfl
  have h1 := hg 1 _ rfl
  have h2 := hg 2 _ rfl
  simp only [List.getElem?_cons_zero, List.getElem?_cons_succ] at h0 h1 h2
  obtain ⟨l, l1, l2, l3⟩ := tms_read (fuel := n) (fun m _ => tm_read m) h0
  obtain ⟨t, t1, t2, t3⟩ := tm_read _ _ _ h1
  obtain ⟨p, _, hp⟩ := DataW.trod_bool Try.underlying4 h2
  subst hp
  refine ⟨⟨l, t, p⟩, ?_, ⟨t2, l2⟩, ?_⟩
  · simp only [List.map_cons, List.map_nil, dv, dcs, l1, t1, Dv.cells, enc_cells, List.cons_append, List.nil_append, List.append_nil, encM]
    rw [enc_eq]
    rfl
  · simp only [List.map_cons, List.map_nil, Rows.uptoBulk, Rows.uptoBulkAll, mdsz]
    omega
theorem metas_arg {v : Value} {d : DataW H} {ps : List MemPlace} (h : DataW.Trod enc' Try.prog W 0 (fun _ => true) held 23 v d ps) : ∃ l : List Md, dv d = .slc (encMs l) ∧ (∀ t ∈ l, WfM t) ∧ msum l + 1 ≤ Rows.uptoBulk d := by
  obtain ⟨fuel, h⟩ := h
  rcases DataW.trod_slice Try.underlying23 h with ⟨_, hx⟩ | ⟨a, len, cap, elems, rest, n, hn, _, hx, _, hlc, _, hel, hget, _, _⟩
  · obtain rfl : d = .nil := congrArg Prod.fst hx
    exact ⟨[], rfl, by simp, by simp [Rows.uptoBulk, msum]⟩
  · obtain rfl : d = _ := congrArg Prod.fst hx
    obtain ⟨l, h1, h2⟩ := list_of (P := fun (y : DataW H × List MemPlace) (t : Md) => dv y.1 = encM t ∧ WfM t ∧ mdsz t ≤ Rows.uptoBulk y.1) elems fun y hy => by
      obtain ⟨i, hi⟩ := List.mem_iff_getElem?.1 hy
      have hlt := (List.getElem?_eq_some_iff.1 hi).1
      have := hget i (by omega)
      rw [hi] at this
      obtain ⟨cs, _, hx⟩ := Option.bind_eq_some_iff.1 this
      exact meta_read hx
    have key : ∀ (es : List (DataW H × List MemPlace)) (l : List Md), l.length = es.length → (∀ (i : Nat) y t, es[i]? = some y → l[i]? = some t → dv y.1 = encM t ∧ WfM t ∧ mdsz t ≤ Rows.uptoBulk y.1) →
        dvs (es.map (·.1)) = encMs l ∧ (∀ t ∈ l, WfM t) ∧ msum l ≤ Rows.uptoBulkAll (es.map (·.1)) := by
      intro es
      induction es with
      | nil =>
        intro l hl _
        obtain rfl : l = [] := List.eq_nil_of_length_eq_zero (by simpa using hl)
        exact ⟨rfl, by simp, by simp [msum]⟩
      | cons y es ih =>
        intro l hl hp
        cases l with
        | nil => simp at hl
        | cons t l =>
          obtain ⟨k1, k2, k3⟩ := hp 0 y t rfl rfl
          obtain ⟨j1, j2, j3⟩ := ih l (by simpa using hl) fun i a b ha hb => hp (i + 1) a b (by simpa using ha) (by simpa using hb)
          refine ⟨?_, fun x hx => ?_, ?_⟩
          · simp only [List.map_cons, dvs, k1, j1]; rfl
          · rcases List.mem_cons.1 hx with rfl | hx
            · exact k2
            · exact j2 x hx
          · unfold msum at j3 ⊢
            simp only [List.map_cons, List.sum_cons, Rows.uptoBulkAll]
            omega
    obtain ⟨k1, k2, k3⟩ := key elems l h1 h2
    refine ⟨l, by simp only [dv, k1], k2, ?_⟩
    simp only [Rows.uptoBulk]
    omega
end
theorem msum_mem {l : List Md} {d : Md} (h : d ∈ l) : mdsz d ≤ msum l := sum_mem (List.mem_map_of_mem h)
theorem msum_len : ∀ l : List Md, l.length ≤ msum l
  | [] => Nat.zero_le _
  | d :: l => by
    have := msum_len l
    unfold msum at this ⊢
    simp only [List.map_cons, List.sum_cons, List.length_cons, mdsz] at this ⊢
    omega
end Go.Proofs.Ytkmpfdecjmnccaa
/- Laws of layer 10: what is light. -/
set_option linter.unusedSimpArgs false
set_option linter.unusedVariables false
set_option maxRecDepth 100000
namespace Go.Proofs.Ytkmpfdecjmnccaa
open Go.Proofs
theorem wsz_of {sg : List Dc} {ms : List Md} {cx : List Tm} (h1 : dsum sg + 1 ≤ 1048576) (h2 : msum ms + 1 ≤ 1048576) (h3 : (cx.map Tm.size).sum + 1 ≤ 1048576) : WSz ⟨sg, ms, cx⟩ := by
  have hr : room = 1099511627776 := rfl
  obtain ⟨c1, c2⟩ := lists_room h3
  have d1 := dsum_len (l := sg)
  have m1 := msum_len ms
  refine ⟨c1, c2, by show sg.length < room; omega, fun d hd => by have := dsum_mem (l := sg) hd; omega, by show ms.length < room; omega, fun d hd => ?_⟩
  have hm := msum_mem (l := ms) hd
  unfold mdsz at hm
  obtain ⟨e1, e2⟩ := lists_room (l := d.ctx) (by omega)
  exact ⟨by omega, e1, e2⟩
abbrev lowK : Int := 1099511627776
theorem light_vle {t : Tm} {s d : Int} (h : lightB t s d = true) : vleB lowK t = true := by
  unfold lightB at h
  simp only [Bool.and_eq_true] at h
  exact vle_low h.1.1
theorem fewB_parts {sg : List Dc} (h : fewB sg = true) : sg.length ≤ 30 ∧ ∀ d ∈ sg, lightB d.t 1000 80 = true := by
  unfold fewB at h
  simp only [Bool.and_eq_true, decide_eq_true_eq, allB_iff] at h
  refine ⟨h.1, fun d hd => ?_⟩
  obtain ⟨i, hi, rfl⟩ := List.mem_iff_getElem.1 hd
  have := h.2 i hi
  rwa [show Dcs.at sg i = sg[i] by simp [Dcs.at, List.getD, List.getElem?_eq_getElem hi]] at this
theorem fewW_parts {w : Wo} (h : fewW w = true) : (w.sig.length ≤ 30 ∧ ∀ d ∈ w.sig, lightB d.t 1000 80 = true) ∧ (w.metas.length ≤ 30 ∧ ∀ d ∈ w.metas, mdLight d = true) ∧ w.ctx.length ≤ 60 ∧ ∀ x ∈ w.ctx, lightB x 500 80 = true := by
  unfold fewW at h
  simp only [Bool.and_eq_true, Bool.not_eq_true', decide_eq_false_iff_not, allB_iff] at h
  obtain ⟨⟨⟨h1, h2⟩, h3⟩, h4⟩ := h
  refine ⟨fewB_parts h1, ⟨by omega, fun d hd => ?_⟩, lights_parts h4⟩
  obtain ⟨i, hi, rfl⟩ := List.mem_iff_getElem.1 hd
  have := h3 i hi
  rwa [show w.metas.getD i default = w.metas[i] by simp [List.getD, List.getElem?_eq_getElem hi]] at this
theorem few_in {w : Wo} (hz : WSz w) (h : fewW w = true) : WIn lowK w := by
  have htv : topV = 1125899906842624 := rfl
  obtain ⟨⟨_, h1⟩, ⟨_, h2⟩, _, h3⟩ := fewW_parts h
  refine ⟨hz, by decide, by rw [htv]; decide, fun x hx => light_vle (h3 x hx), fun d hd => light_vle (h1 d hd), fun d hd => ?_⟩
  have := h2 d hd
  unfold mdLight at this
  rw [Bool.and_eq_true] at this
  exact ⟨light_vle this.2, fun x hx => light_vle ((lights_parts this.1).2 x hx)⟩
theorem mayW_of {w : Wd} {c l : List Tm} (h : mayW w c l = true) : ∀ x ∈ l, mayB x = true := by
  unfold mayW at h
  simp only [Bool.and_eq_true] at h
  exact maysB_iff.1 h.1.1.1.2
theorem TermR_ok {w : Wd} {c : List Tm} {m a : Tm} (h : TermR w c m a = 0) : mayW w c [m, a] = true ∧ termW w m a c = 0 := by
  unfold TermR at h
  cases hm : mayW w c [m, a]
  · rw [hm] at h; cases h
  · rw [hm] at h; exact ⟨rfl, h⟩
theorem size_room {t : Tm} (h : t.size ≤ 1048576) : t.size < room := by
  have hr : room = 1099511627776 := rfl
  omega
end Go.Proofs.Ytkmpfdecjmnccaa
/- Laws of layer 10: CheckLam, CheckPi. -/
set_option linter.unusedSimpArgs false
set_option linter.unusedVariables false
set_option maxRecDepth 100000
namespace Go.Proofs.Ytkmpfdecjmnccaa
open Go.Proofs
theorem WIn.cons {K : Int} {w : Wo} (h : WIn K w) {c : List Tm} (hs : ∀ x ∈ c, x.size < room ∧ vleB K x = true) (hl : c.length < room) : WIn K ⟨w.sig, w.metas, c⟩ :=
  ⟨⟨hl, fun x hx => (hs x hx).1, h.sz.sl, h.sz.sz, h.sz.ml, h.sz.mz⟩, h.hk, h.top, fun x hx => (hs x hx).2, h.sig, h.metas⟩
theorem TypR_ok {w : Wd} {c : List Tm} {a : Tm} (h : TypR w c a = 0) : mayW w c [a] = true ∧ typW w a c = 0 := by
  unfold TypR at h
  cases hm : mayW w c [a]
  · rw [hm] at h; cases h
  · rw [hm] at h; exact ⟨rfl, h⟩
theorem KindR_ok {w : Wd} {c : List Tm} {a : Tm} (h : KindR w c a = 0) : mayW w c [a] = true ∧ kindW w a c = 0 := by
  unfold KindR at h
  cases hm : mayW w c [a]
  · rw [hm] at h; cases h
  · rw [hm] at h; exact ⟨rfl, h⟩
end Go.Proofs.Ytkmpfdecjmnccaa
/- Terms as functions that are applied: what two ways of going on come to is the same. -/
set_option linter.unusedVariables false
set_option linter.unusedSimpArgs false
namespace Go.Proofs.Ytkmpfdecjmnccaa
inductive E where
  | var (i : Nat)
  | con (k h : Int)
  | lam (b : E)
  | app (f a : E)
namespace E
def upr (ρ : Nat → Nat) : Nat → Nat
  | 0 => 0
  | i + 1 => ρ i + 1
def ren (ρ : Nat → Nat) : E → E
  | var i => var (ρ i)
  | con k h => con k h
  | lam b => lam (ren (upr ρ) b)
  | app f a => app (ren ρ f) (ren ρ a)
def ups (σ : Nat → E) : Nat → E
  | 0 => var 0
  | i + 1 => ren Nat.succ (σ i)
def sub (σ : Nat → E) : E → E
  | var i => σ i
  | con k h => con k h
  | lam b => lam (sub (ups σ) b)
  | app f a => app (sub σ f) (sub σ a)
def scons (a : E) (σ : Nat → E) : Nat → E
  | 0 => a
  | i + 1 => σ i
theorem upr_comp (ρ ρ' : Nat → Nat) : (fun i => upr ρ' (upr ρ i)) = upr fun i => ρ' (ρ i) := by funext i; cases i <;> rfl
theorem ren_ren : ∀ (t : E) (ρ ρ' : Nat → Nat), ren ρ' (ren ρ t) = ren (fun i => ρ' (ρ i)) t
  | var i, _, _ => rfl
  | con _ _, _, _ => rfl
  | lam b, ρ, ρ' => by simp only [ren, ren_ren b, upr_comp]
  | app f a, ρ, ρ' => by simp only [ren, ren_ren f, ren_ren a]
theorem ups_upr (σ : Nat → E) (ρ : Nat → Nat) : (fun i => ups σ (upr ρ i)) = ups fun i => σ (ρ i) := by funext i; cases i <;> rfl
theorem sub_ren : ∀ (t : E) (ρ : Nat → Nat) (σ : Nat → E), sub σ (ren ρ t) = sub (fun i => σ (ρ i)) t
  | var i, _, _ => rfl
  | con _ _, _, _ => rfl
  | lam b, ρ, σ => by simp only [ren, sub, sub_ren b, ups_upr]
  | app f a, ρ, σ => by simp only [ren, sub, sub_ren f, sub_ren a]
theorem ren_ups (σ : Nat → E) (ρ : Nat → Nat) : (fun i => ren (upr ρ) (ups σ i)) = ups fun i => ren ρ (σ i) := by
  funext i
  cases i with
  | zero => rfl
  | succ i => simp only [ups, ren_ren]; rfl
theorem ren_sub : ∀ (t : E) (σ : Nat → E) (ρ : Nat → Nat), ren ρ (sub σ t) = sub (fun i => ren ρ (σ i)) t
  | var i, _, _ => rfl
  | con _ _, _, _ => rfl
  | lam b, σ, ρ => by simp only [ren, sub, ren_sub b, ren_ups]
  | app f a, σ, ρ => by simp only [ren, sub, ren_sub f, ren_sub a]
theorem sub_ups (σ τ : Nat → E) : (fun i => sub (ups τ) (ups σ i)) = ups fun i => sub τ (σ i) := by
  funext i
  cases i with
  | zero => rfl
  | succ i => simp only [ups, sub_ren, ren_sub]
theorem sub_sub : ∀ (t : E) (σ τ : Nat → E), sub τ (sub σ t) = sub (fun i => sub τ (σ i)) t
  | var i, _, _ => rfl
  | con _ _, _, _ => rfl
  | lam b, σ, τ => by simp only [sub, sub_sub b, sub_ups]
  | app f a, σ, τ => by simp only [sub, sub_sub f, sub_sub a]
theorem ups_var : ups var = var := by funext i; cases i <;> rfl
theorem sub_var : ∀ t : E, sub var t = t
  | var i => rfl
  | con _ _ => rfl
  | lam b => by simp only [sub, ups_var, sub_var b]
  | app f a => by simp only [sub, sub_var f, sub_var a]
def one (a : E) : Nat → E := scons a var
theorem sub_one (σ : Nat → E) (b a : E) : sub σ (sub (one a) b) = sub (one (sub σ a)) (sub (ups σ) b) := by
  rw [sub_sub, sub_sub]
  congr 1
  funext i
  cases i with
  | zero => rfl
  | succ i =>
    simp only [one, scons, ups, sub, sub_ren]
    exact (sub_var _).symm
theorem ren_one (ρ : Nat → Nat) (b a : E) : ren ρ (sub (one a) b) = sub (one (ren ρ a)) (ren (upr ρ) b) := by
  rw [ren_sub, sub_ren]
  congr 1
  funext i
  cases i <;> rfl
/-! ### steps side by side -/
inductive P : E → E → Prop where
  | var (i : Nat) : P (var i) (var i)
  | con (k h : Int) : P (con k h) (con k h)
  | lam {b b' : E} : P b b' → P (lam b) (lam b')
  | app {f f' a a' : E} : P f f' → P a a' → P (app f a) (app f' a')
  | beta {b b' a a' : E} : P b b' → P a a' → P (app (lam b) a) (sub (one a') b')
theorem P.refl : ∀ t : E, P t t
  | E.var i => .var i
  | E.con k h => .con k h
  | E.lam b => .lam (P.refl b)
  | E.app f a => .app (P.refl f) (P.refl a)
theorem P.ren {t t' : E} (h : P t t') : ∀ ρ, P (ren ρ t) (ren ρ t') := by
  induction h with
  | var i => exact fun ρ => .var _
  | con k h => exact fun ρ => .con _ _
  | lam _ ih => exact fun ρ => .lam (ih _)
  | app _ _ ih1 ih2 => exact fun ρ => .app (ih1 _) (ih2 _)
  | beta _ _ ih1 ih2 =>
    intro ρ
    rw [ren_one]
    exact .beta (ih1 _) (ih2 _)
theorem P.sub {t t' : E} (h : P t t') : ∀ {σ σ' : Nat → E}, (∀ i, P (σ i) (σ' i)) → P (sub σ t) (sub σ' t') := by
  have hup : ∀ {σ σ' : Nat → E}, (∀ i, P (σ i) (σ' i)) → ∀ i, P (ups σ i) (ups σ' i) := fun {σ σ'} hs i => by
    cases i with
    | zero => exact .var 0
    | succ i => exact (hs i).ren _
  induction h with
  | var i => exact fun hs => hs i
  | con k h => exact fun _ => .con _ _
  | lam _ ih => exact fun hs => .lam (ih (hup hs))
  | app _ _ ih1 ih2 => exact fun hs => .app (ih1 hs) (ih2 hs)
  | beta _ _ ih1 ih2 =>
    intro σ σ' hs
    rw [sub_one]
    exact .beta (ih1 (hup hs)) (ih2 hs)
def cd : E → E
  | var i => var i
  | con k h => con k h
  | lam b => lam (cd b)
  | app (lam b) a => sub (one (cd a)) (cd b)
  | app (var i) a => app (var i) (cd a)
  | app (con k h) a => app (con k h) (cd a)
  | app (app f b) a => app (cd (app f b)) (cd a)
theorem P.tri {t t' : E} (h : P t t') : P t' (cd t) := by
  have hone : ∀ {a a' : E}, P a a' → ∀ i, P (one a i) (one a' i) := fun {a a'} ha i => by
    cases i with
    | zero => exact ha
    | succ i => exact .var i
  induction h with
  | var i => exact .var i
  | con k h => exact .con k h
  | lam _ ih => exact .lam ih
  | @app f f' a a' hf ha ih1 ih2 =>
    cases f with
    | var i => exact .app ih1 ih2
    | con k h => exact .app ih1 ih2
    | app g b => exact .app ih1 ih2
    | lam b =>
      cases hf with
      | @lam _ b' hb =>
        cases ih1 with
        | lam ih1 => exact .beta ih1 ih2
  | beta _ _ ih1 ih2 => exact P.sub ih1 (hone ih2)
inductive PS : E → E → Prop where
  | refl (a : E) : PS a a
  | head {a b c : E} : P a b → PS b c → PS a c
theorem PS.trans {a b c : E} (h : PS a b) (k : PS b c) : PS a c := by
  induction h with
  | refl => exact k
  | head p _ ih => exact .head p (ih k)
theorem PS.one {a b : E} (h : P a b) : PS a b := .head h (.refl b)
theorem strip {a c : E} (k : PS a c) : ∀ {b : E}, P a b → ∃ d, PS b d ∧ P c d := by
  induction k with
  | refl a => exact fun {b} h => ⟨b, .refl b, h⟩
  | @head a a1 c p _ ih =>
    intro b h
    obtain ⟨d, h1, h2⟩ := ih p.tri
    exact ⟨d, .head h.tri h1, h2⟩
theorem conf {a b : E} (h : PS a b) : ∀ {c : E}, PS a c → ∃ d, PS b d ∧ PS c d := by
  induction h with
  | refl a => exact fun {c} k => ⟨c, k, .refl c⟩
  | head p _ ih =>
    intro c k
    obtain ⟨d1, h1, h2⟩ := strip k p
    obtain ⟨d, h3, h4⟩ := ih h1
    exact ⟨d, h3, .head h2 h4⟩
theorem PS.lam {b b' : E} (h : PS b b') : PS (lam b) (lam b') := by
  induction h with
  | refl a => exact .refl _
  | head p _ ih => exact .head (.lam p) ih
theorem PS.app {f f' a a' : E} (h : PS f f') (k : PS a a') : PS (app f a) (app f' a') := by
  have h1 : PS (E.app f a) (E.app f' a) := by
    induction h with
    | refl => exact .refl _
    | head p _ ih => exact .head (.app p (.refl _)) ih
  have h2 : PS (E.app f' a) (E.app f' a') := by
    clear h1
    induction k with
    | refl => exact .refl _
    | head p _ ih => exact .head (.app (.refl _) p) ih
  exact h1.trans h2
theorem PS.sub1 {t t' : E} (h : PS t t') (σ : Nat → E) : PS (sub σ t) (sub σ t') := by
  induction h with
  | refl => exact .refl _
  | head p _ ih => exact .head (P.sub p fun i => .refl _) ih
theorem PS.ren {t t' : E} (h : PS t t') (ρ : Nat → Nat) : PS (ren ρ t) (ren ρ t') := by
  induction h with
  | refl => exact .refl _
  | head p _ ih => exact .head (p.ren ρ) ih
theorem PS.subs : ∀ (t : E) {σ σ' : Nat → E}, (∀ i, PS (σ i) (σ' i)) → PS (sub σ t) (sub σ' t)
  | E.var i, _, _, h => h i
  | E.con _ _, _, _, _ => .refl _
  | E.lam b, σ, σ', h => PS.lam (PS.subs b fun i => by
      cases i with
      | zero => exact .refl _
      | succ i => exact (h i).ren _)
  | E.app f a, σ, σ', h => PS.app (PS.subs f h) (PS.subs a h)
/-! ### one applied to many -/
def apps (f : E) (l : List E) : E := l.foldl E.app f
theorem apps_nil (f : E) : apps f [] = f := rfl
theorem apps_cons (f a : E) (l : List E) : apps f (a :: l) = apps (E.app f a) l := rfl
theorem apps_append (f : E) (l l' : List E) : apps f (l ++ l') = apps (apps f l) l' := by simp [apps]
theorem apps_snoc (f a : E) (l : List E) : apps f (l ++ [a]) = E.app (apps f l) a := by simp [apps]
theorem sub_apps (σ : Nat → E) : ∀ (l : List E) (f : E), sub σ (apps f l) = apps (sub σ f) (l.map (sub σ))
  | [], f => rfl
  | a :: l, f => by rw [apps_cons, sub_apps σ l]; rfl
theorem ren_apps (ρ : Nat → Nat) : ∀ (l : List E) (f : E), ren ρ (apps f l) = apps (ren ρ f) (l.map (ren ρ))
  | [], f => rfl
  | a :: l, f => by rw [apps_cons, ren_apps ρ l]; rfl
inductive All2 (Q : E → E → Prop) : List E → List E → Prop where
  | nil : All2 Q [] []
  | cons {a b : E} {l l' : List E} : Q a b → All2 Q l l' → All2 Q (a :: l) (b :: l')
theorem PS.apps {f f' : E} {l l' : List E} (h : PS f f') (k : All2 PS l l') : PS (E.apps f l) (E.apps f' l') := by
  induction k generalizing f f' with
  | nil => exact h
  | cons q _ ih => exact ih (PS.app h q)
def rigid : E → Prop
  | var _ => True
  | con _ _ => True
  | _ => False
theorem apps_rigid {h : E} (hr : rigid h) : ∀ l : List E, (∃ f a, apps h l = E.app f a) ∨ l = [] := by
  intro l
  rcases List.eq_nil_or_concat l with rfl | ⟨l, a, rfl⟩
  · exact .inr rfl
  · exact .inl ⟨_, _, by rw [List.concat_eq_append, apps_snoc]⟩
theorem apps_no_lam {h : E} (hr : rigid h) (l : List E) (b : E) : apps h l ≠ E.lam b := by
  rcases apps_rigid hr l with ⟨f, a, e⟩ | rfl
  · rw [e]; intro h; cases h
  · rw [apps_nil]; intro e; rw [e] at hr; exact hr
theorem P_apps {h : E} (hr : rigid h) : ∀ (n : Nat) (l : List E), l.length = n → ∀ x, P (apps h l) x → ∃ l', x = apps h l' ∧ All2 P l l'
  | 0, l, hn, x, hp => by
    obtain rfl := List.eq_nil_of_length_eq_zero hn
    rw [apps_nil] at hp
    cases h with
    | var i => cases hp; exact ⟨[], rfl, .nil⟩
    | con k h => cases hp; exact ⟨[], rfl, .nil⟩
    | lam b => exact hr.elim
    | app f a => exact hr.elim
  | n + 1, l, hn, x, hp => by
    rcases List.eq_nil_or_concat l with rfl | ⟨l, a, rfl⟩
    · cases hn
    rw [List.concat_eq_append] at hn hp ⊢
    rw [apps_snoc] at hp
    generalize hg : apps h l = g at hp
    have hsn : ∀ {l l' : List E} {a a' : E}, All2 P l l' → P a a' → All2 P (l ++ [a]) (l' ++ [a']) := by
      intro l l' a a' h1 h2
      induction h1 with
      | nil => exact .cons h2 .nil
      | cons q _ ih => exact .cons q ih
    cases hp with
    | app p1 p2 =>
      subst hg
      obtain ⟨l', rfl, h2⟩ := P_apps hr n l (by simpa using hn) _ p1
      exact ⟨l' ++ [_], by rw [apps_snoc], hsn h2 p2⟩
    | beta p1 p2 => exact absurd hg (apps_no_lam hr l _)
theorem apps_inj {h h' : E} (hr : rigid h) (hr' : rigid h') : ∀ (n : Nat) (l l' : List E), l.length = n → apps h l = apps h' l' → h = h' ∧ l = l'
  | 0, l, l', hn, he => by
    obtain rfl := List.eq_nil_of_length_eq_zero hn
    rcases List.eq_nil_or_concat l' with rfl | ⟨l', a, rfl⟩
    · exact ⟨he, rfl⟩
    · rw [List.concat_eq_append, apps_snoc, apps_nil] at he
      rw [he] at hr; exact hr.elim
  | n + 1, l, l', hn, he => by
    rcases List.eq_nil_or_concat l with rfl | ⟨l, a, rfl⟩
    · cases hn
    rcases List.eq_nil_or_concat l' with rfl | ⟨l', a', rfl⟩
    · rw [List.concat_eq_append, apps_snoc, apps_nil] at he
      rw [← he] at hr'; exact hr'.elim
    · rw [List.concat_eq_append, List.concat_eq_append, apps_snoc, apps_snoc] at he
      injection he with h1 h2
      obtain ⟨rfl, rfl⟩ := apps_inj hr hr' n l l' (by simpa using hn) h1
      rw [h2]; exact ⟨rfl, rfl⟩
end E
end Go.Proofs.Ytkmpfdecjmnccaa
/- Terms as functions that are applied: substitution goes on as these do. -/
set_option linter.unusedVariables false
set_option linter.unusedSimpArgs false
namespace Go.Proofs.Ytkmpfdecjmnccaa
open E
def wrap (b : Nat) (e : E) : E := if b = 1 then .lam e else e
def hd (t : Tm) : E := if t.kind = 4 then .var t.head.toNat else .con t.kind t.head
def em : Tm → E
  | .mk k h l => if k = 3 then (if h0 : 0 < l.length then .lam (em l[0]) else .con 3 0)
      else apps (hd (.mk k h l)) ((List.range l.length).map fun i => if hi : i < l.length then wrap (bnd (.mk k h l) i) (em l[i]) else .con 0 0)
decreasing_by
  · have := List.sizeOf_lt_of_mem (List.getElem_mem h0)
    simp only [Tm.mk.sizeOf_spec]
    omega
  · have := List.sizeOf_lt_of_mem (List.getElem_mem hi)
    simp only [Tm.mk.sizeOf_spec]
    omega
def ems (t : Tm) : List E := (List.range t.args.length).map fun i => wrap (bnd t i) (em (t.arg i))
theorem em_lam {t : Tm} (hk : t.kind = 3) (hl : 0 < t.args.length) : em t = .lam (em (t.arg 0)) := by
  obtain ⟨k, h, l⟩ := t
  have hk : k = 3 := hk
  have hl : 0 < l.length := hl
  rw [em, if_pos hk, dif_pos hl]
  have := arg_eq (t := .mk k h l) hl
  simp only [Tm.args] at this
  rw [this]
theorem em_app {t : Tm} (hk : t.kind ≠ 3) : em t = apps (hd t) (ems t) := by
  obtain ⟨k, h, l⟩ := t
  have hk : ¬ k = 3 := hk
  rw [em, if_neg hk]
  congr 1
  refine List.map_congr_left fun i hi => ?_
  have hi : i < l.length := by simpa using hi
  have := arg_eq (t := .mk k h l) hi
  simp only [Tm.args] at this
  rw [dif_pos hi, this]
theorem hd_rigid (t : Tm) : rigid (hd t) := by unfold hd; split <;> trivial
theorem ems_len (t : Tm) : (ems t).length = t.args.length := by simp [ems]
theorem ems_getElem (t : Tm) (i : Nat) (h : i < (ems t).length) : (ems t)[i] = wrap (bnd t i) (em (t.arg i)) := by simp [ems]
theorem ems_none {t : Tm} (hk : heads t.kind = true) : ems t = t.args.map em := by
  unfold ems
  refine List.ext_getElem (by simp) fun i h1 h2 => ?_
  simp at h1
  simp [bnd_none' hk, wrap, arg_eq h1]
theorem em_heads {k h : Int} {l : List Tm} (hk : heads k = true) : em (.mk k h l) = apps (hd (.mk k h [])) (l.map em) := by
  have h3 : (Tm.mk k h l).kind ≠ 3 := by
    simp only [heads, Bool.or_eq_true, beq_iff_eq] at hk
    show k ≠ 3
    omega
  rw [em_app h3, ems_none (t := .mk k h l) hk]
  rfl
theorem em_var {i : Int} : em (.mk 4 i []) = .var i.toNat := by
  rw [em_heads rfl]; rfl
/-! ### up by one -/
def upn : Nat → Nat → Nat
  | 0 => Nat.succ
  | n + 1 => upr (upn n)
theorem upn_get : ∀ n i : Nat, upn n i = if i ≥ n then i + 1 else i
  | 0, i => by simp [upn]
  | n + 1, 0 => by simp [upn, upr]
  | n + 1, i + 1 => by
    simp only [upn, upr, upn_get n i]
    split <;> split <;> omega
theorem em_up : ∀ t : Tm, nodesB t = true → ∀ n : Nat, em (mapT (gUp 1) t (n : Int)) = ren (upn n) (em t) := by
  refine Tm.ind fun t ih hn n => ?_
  by_cases hk : t.kind = 3
  · have hl := lam_len hn hk
    rw [em_lam hk (by omega), em_lam (by rw [mapT_kind]; exact hk) (by rw [mapT_len]; omega), mapT_arg _ _ (by omega), lam_bnd hn hk]
    have := ih _ (arg_mem (by omega)) (node_args hn 0 (by omega)) (n + 1)
    rw [show ((n : Int) + ((1 : Nat) : Int)) = ((n + 1 : Nat) : Int) by omega, this]
    rfl
  · rw [em_app hk, em_app (by rw [mapT_kind]; exact hk), ren_apps]
    have h1 : hd (mapT (gUp 1) t (n : Int)) = ren (upn n) (hd t) := by
      have h0 := node_head (node_here hn)
      unfold hd
      rw [mapT_kind, mapT_head]
      by_cases h4 : t.kind = 4
      · rw [if_pos h4, if_pos h4]
        have : (t.kind == 4) = true := by simpa using h4
        simp only [this, if_true, ren, upn_get, gUp]
        congr 1
        split <;> split <;> omega
      · rw [if_neg h4, if_neg h4]
        have : (t.kind == 4) = false := by simpa using h4
        simp only [this, Bool.false_eq_true, if_false, ren]
    have h2 : ems (mapT (gUp 1) t (n : Int)) = (ems t).map (ren (upn n)) := by
      unfold ems
      rw [mapT_len, List.map_map]
      refine List.map_congr_left fun i hi => ?_
      have hi : i < t.args.length := by simpa using hi
      have hx := ih _ (arg_mem hi) (node_args hn i hi) (n + bnd t i)
      simp only [Function.comp_apply]
      rw [mapT_arg _ _ hi, mapT_bnd, show ((n : Int) + ((bnd t i : Nat) : Int)) = ((n + bnd t i : Nat) : Int) by omega, hx]
      unfold wrap
      by_cases hb : bnd t i = 1
      · rw [if_pos hb, if_pos hb, hb]; rfl
      · rw [if_neg hb, if_neg hb, show bnd t i = 0 by have := bnd_le t i; omega]; rfl
    rw [h1, h2]
def sg (s : Sb) (i : Nat) : E := em (ofS s i)
theorem sg_under {s : Sb} (h : NodesS s) : sg (underS s) = ups (sg s) := by
  funext i
  cases i with
  | zero => show em (ofS (underS s) 0) = _; rw [of_under0]; unfold var0; rw [em_var]; rfl
  | succ i =>
    show em (ofS (underS s) ((i + 1 : Nat) : Int)) = _
    rw [show ((i + 1 : Nat) : Int) = (i : Int) + 1 by omega, of_under s (by omega) h.2]
    exact em_up _ (h.of (by omega)) 0
theorem sg_one (a : Tm) : sg ⟨[a], 0⟩ = one (em a) := by
  funext i
  cases i with
  | zero => rfl
  | succ i =>
    show em (ofS ⟨[a], 0⟩ ((i + 1 : Nat) : Int)) = .var i
    have : ofS ⟨[a], 0⟩ ((i + 1 : Nat) : Int) = .mk 4 i [] := by
      unfold ofS
      rw [if_neg (by simp; omega)]
      congr 1
      simp
    rw [this, em_var]
    rfl
abbrev Goes (A : Tm → Sb → Nat → R Tm) : Prop := ∀ (t : Tm) (s : Sb) (n : Nat) (u : Tm) (m : Nat), nodesB t = true → NodesS s → A t s n = .ok u m → nodesB u = true ∧ PS (sub (sg s) (em t)) (em u)
theorem all2_refl (l : List E) : All2 PS l l := by
  induction l with
  | nil => exact .nil
  | cons a l ih => exact .cons (.refl a) ih
theorem spn_goes {A : Tm → Sb → Nat → R Tm} (hA : Goes A) : ∀ (l : List Tm) (u : Tm) (n : Nat) (r : Tm) (m : Nat), nodesB u = true → (∀ x ∈ l, nodesB x = true) → spnA A u l n = .ok r m → nodesB r = true ∧ PS (apps (em u) (l.map em)) (em r)
  | [], u, n, r, m, hu, hl, h => by cases h; exact ⟨hu, .refl _⟩
  | a :: rest, u, n, r, m, hu, hl, h => by
    simp only [spnA] at h
    split at h
    · rename_i hk
      split at h
      case isFalse => cases h
      obtain ⟨v, n1, h1, h2⟩ := R.bind_eq h
      have hl1 := lam_len hu hk
      obtain ⟨hv, hp⟩ := hA _ _ _ v n1 (node_args hu 0 (by omega)) ⟨by simpa using hl a (by simp), by simp⟩ h1
      obtain ⟨hr, hq⟩ := spn_goes hA rest v n1 r m hv (fun x hx => hl x (by simp [hx])) h2
      refine ⟨hr, ?_⟩
      rw [List.map_cons, apps_cons, em_lam hk (by omega)]
      rw [sg_one] at hp
      refine PS.trans (PS.apps ?_ (all2_refl _)) hq
      exact .head (.beta (P.refl _) (P.refl _)) hp
    · split at h
      case isFalse => cases h
      rename_i hk hh
      cases h
      refine ⟨nodes_mk (node_heads hh (node_head (node_here hu)) _) fun x hx => ?_, ?_⟩
      · rcases List.mem_append.1 hx with hx | hx
        · obtain ⟨i, hi, rfl⟩ := List.mem_iff_getElem.1 hx
          rw [arg_eq hi]; exact node_args hu i hi
        · exact hl x hx
      · rw [em_heads hh, List.map_append, apps_append]
        have : em u = apps (hd (.mk u.kind u.head [])) (u.args.map em) := by
          conv => lhs; rw [← mk_self u]
          exact em_heads hh
        rw [this]
        exact .refl _
theorem all2_of {l l' : List E} (hl : l.length = l'.length) {Q : E → E → Prop} (h : ∀ i, (h1 : i < l.length) → (h2 : i < l'.length) → Q l[i] l'[i]) : All2 Q l l' := by
  induction l generalizing l' with
  | nil =>
    obtain rfl := List.eq_nil_of_length_eq_zero hl.symm
    exact .nil
  | cons a l ih =>
    cases l' with
    | nil => cases hl
    | cons b l' =>
      refine .cons (h 0 (by simp) (by simp)) (ih (by simpa using hl) fun i h1 h2 => ?_)
      have := h (i + 1) (by simpa using h1) (by simpa using h2)
      simpa using this
theorem ap_goes : ∀ f : Nat, Goes (ap f)
  | 0 => fun t s n u m ht hs h => by cases h
  | f + 1 => fun t s n u m ht hs h => by
    have ih := ap_goes f
    rw [ap_succ] at h
    split at h
    · cases h
    obtain ⟨xs, m1, e1, e2⟩ := R.bind_eq h
    have hxl := seqF_len _ _ _ _ _ e1
    have hall := seq_all (Q := fun i x => nodesB x = true ∧ PS (sub (sg (below s t i)) (em (t.arg i))) (em x)) t.args.length (fun i hi m x m' hx => ih _ _ m x m' (node_args ht i hi) (hs.below t i) hx) xs m1 e1
    have hxn : ∀ x ∈ xs, nodesB x = true := getD_all fun i hi => (hall i (by omega)).1
    have hget : ∀ i, (h1 : i < xs.length) → xs[i] = xs.getD i default := fun i h1 => by rw [List.getD_eq_getElem?_getD, List.getElem?_eq_getElem h1]; rfl
    split at e2
    · rename_i hk
      have hh : heads t.kind = true := by simp [heads, hk]
      obtain ⟨hr, hp⟩ := spn_goes ih xs (ofS s t.head) m1 u m (hs.of (node_head (node_here ht))) hxn e2
      refine ⟨hr, PS.trans ?_ hp⟩
      rw [em_app (by omega), sub_apps, ems_none hh]
      have hhd : sub (sg s) (hd t) = em (ofS s t.head) := by
        have h0 := node_head (node_here ht)
        unfold hd
        rw [if_pos hk]
        show em (ofS s (t.head.toNat : Int)) = _
        rw [Int.toNat_of_nonneg h0]
      rw [hhd]
      refine PS.apps (.refl _) (all2_of (by simp [hxl]) fun i h1 h2 => ?_)
      simp only [List.length_map] at h1 h2
      have := (hall i h1).2
      rw [show below s t i = s by unfold below; rw [bnd_none' hh]; rfl] at this
      simp only [List.getElem_map, arg_eq h1, hget i h2]
      exact this
    · rename_i hk
      cases e2
      have hnk : nodesB (.mk t.kind t.head xs) = true := nodes_mk (node_same (node_here ht) hxl) hxn
      refine ⟨hnk, ?_⟩
      have hbel : ∀ i, i < t.args.length → PS (sub (sg s) (wrap (bnd t i) (em (t.arg i)))) (wrap (bnd t i) (em (xs.getD i default))) := fun i hi => by
        have := (hall i hi).2
        unfold below at this
        unfold wrap
        by_cases hb : bnd t i = 1
        · rw [if_pos hb, sg_under hs] at this
          rw [if_pos hb, if_pos hb]
          exact PS.lam this
        · rw [if_neg hb] at this
          rw [if_neg hb, if_neg hb]
          exact this
      by_cases h3 : t.kind = 3
      · have hl := lam_len ht h3
        rw [em_lam h3 (by omega), em_lam (t := .mk t.kind t.head xs) h3 (by rw [mk_args]; omega)]
        have := hbel 0 (by omega)
        rw [lam_bnd ht h3] at this
        exact this
      · rw [em_app h3, em_app (t := .mk t.kind t.head xs) h3, sub_apps]
        have hhd : sub (sg s) (hd t) = hd (.mk t.kind t.head xs) := by
          unfold hd
          rw [mk_kind, if_neg hk, if_neg hk]; rfl
        rw [hhd]
        refine PS.apps (.refl _) (all2_of (by simp [ems_len, hxl, mk_args]) fun i h1 h2 => ?_)
        simp only [List.length_map, ems_len] at h1
        have := hbel i h1
        simp only [List.getElem_map, ems_getElem]
        rw [bnd_mk t hxl]
        exact this
/-! ### nothing is left to do -/
theorem all2_eq {Q : E → E → Prop} {l l' : List E} (h : All2 Q l l') (hq : ∀ e ∈ l, ∀ x, Q e x → x = e) : l' = l := by
  induction h with
  | nil => rfl
  | cons q _ ih => rw [hq _ (by simp) _ q, ih fun e he => hq e (by simp [he])]
theorem em_nf : ∀ t : Tm, nodesB t = true → ∀ x, P (em t) x → x = em t := by
  refine Tm.ind fun t ih hn x hp => ?_
  by_cases hk : t.kind = 3
  · have hl := lam_len hn hk
    rw [em_lam hk (by omega)] at hp ⊢
    cases hp with
    | lam p => rw [ih _ (arg_mem (by omega)) (node_args hn 0 (by omega)) _ p]
  · rw [em_app hk] at hp ⊢
    obtain ⟨l', rfl, h2⟩ := P_apps (hd_rigid t) _ _ rfl _ hp
    rw [all2_eq h2 fun e he x hx => ?_]
    unfold ems at he
    simp only [List.mem_map, List.mem_range] at he
    obtain ⟨i, hi, rfl⟩ := he
    have hi' := ih _ (arg_mem hi) (node_args hn i hi)
    unfold wrap at hx ⊢
    by_cases hb : bnd t i = 1
    · rw [if_pos hb] at hx ⊢
      cases hx with
      | lam p => rw [hi' _ p]
    · rw [if_neg hb] at hx ⊢
      exact hi' _ hx
theorem em_stays {t : Tm} (hn : nodesB t = true) {x : E} (h : PS (em t) x) : x = em t := by
  generalize he : em t = e at h
  induction h with
  | refl => rfl
  | head p _ ih =>
    subst he
    have := em_nf t hn _ p
    subst this
    exact ih rfl
theorem em_inj : ∀ t u : Tm, nodesB t = true → nodesB u = true → em t = em u → t = u := by
  refine Tm.ind fun t ih u ht hu he => ?_
  by_cases hk : t.kind = 3
  · have hl := lam_len ht hk
    rw [em_lam hk (by omega)] at he
    by_cases hk' : u.kind = 3
    · have hl' := lam_len hu hk'
      rw [em_lam hk' (by omega)] at he
      injection he with he
      have h0 : t.head = 0 := by
        have := node_here ht
        unfold nodeOk at this
        simp [hk] at this
        exact this.1
      have h0' : u.head = 0 := by
        have := node_here hu
        unfold nodeOk at this
        simp [hk'] at this
        exact this.1
      refine tm_ext (by omega) (by omega) (by omega) fun i hi => ?_
      obtain rfl : i = 0 := by omega
      exact ih _ (arg_mem hi) _ (node_args ht 0 hi) (node_args hu 0 (by omega)) he
    · rw [em_app hk'] at he
      exact absurd he.symm (apps_no_lam (hd_rigid u) _ _)
  · by_cases hk' : u.kind = 3
    · have hl' := lam_len hu hk'
      rw [em_app hk, em_lam hk' (by omega)] at he
      exact absurd he (apps_no_lam (hd_rigid t) _ _)
    · rw [em_app hk, em_app hk'] at he
      obtain ⟨h1, h2⟩ := apps_inj (hd_rigid t) (hd_rigid u) _ _ _ rfl he
      have n1 := node_head (node_here ht)
      have n2 := node_head (node_here hu)
      have hkh : t.kind = u.kind ∧ t.head = u.head := by
        unfold hd at h1
        by_cases h4 : t.kind = 4
        · rw [if_pos h4] at h1
          by_cases h4' : u.kind = 4
          · rw [if_pos h4'] at h1
            injection h1 with h1
            exact ⟨by omega, by omega⟩
          · rw [if_neg h4'] at h1; cases h1
        · rw [if_neg h4] at h1
          by_cases h4' : u.kind = 4
          · rw [if_pos h4'] at h1; cases h1
          · rw [if_neg h4'] at h1
            injection h1 with h1 h1'
            exact ⟨h1, h1'⟩
      have hlen : t.args.length = u.args.length := by rw [← ems_len, h2, ems_len]
      refine tm_ext hkh.1 hkh.2 hlen fun i hi => ?_
      have hb : bnd u i = bnd t i := by unfold bnd; rw [hkh.1, hlen]
      have h3 : (ems t)[i]'(by rw [ems_len]; exact hi) = (ems u)[i]'(by rw [ems_len]; omega) := by simp only [h2]
      rw [ems_getElem, ems_getElem, hb] at h3
      refine ih _ (arg_mem hi) _ (node_args ht i hi) (node_args hu i (by omega)) ?_
      unfold wrap at h3
      split at h3
      · injection h3
      · exact h3
end Go.Proofs.Ytkmpfdecjmnccaa
/- One entry more within a context: in plain words. -/
set_option linter.unusedVariables false
set_option linter.unusedSimpArgs false
namespace Go.Proofs.Ytkmpfdecjmnccaa
theorem mapT_shift (g : Int → Int → Int) (d : Int) : ∀ (t : Tm) (n : Int), mapT g t (n + d) = mapT (fun x m => g x (m + d)) t n := by
  refine Tm.ind fun t ih n => ?_
  rw [mapT_eq, mapT_eq]
  congr 1
  refine List.map_congr_left fun i hi => ?_
  have hi : i < t.args.length := by simpa using hi
  have := ih _ (arg_mem hi) (n + bnd t i)
  rw [← this]
  congr 1
  omega
theorem up_swap (t : Tm) {k : Int} (hk : 0 ≤ k) : upT (upT t 1 k) 1 0 = upT (upT t 1 0) 1 (k + 1) := by
  have h1 : upT t 1 k = mapT (fun x m => gUp 1 x (m + k)) t 0 := by
    have := mapT_shift (gUp 1) k t 0
    rwa [Int.zero_add] at this
  have h2 : upT (upT t 1 0) 1 (k + 1) = mapT (fun x m => gUp 1 x (m + (k + 1))) (upT t 1 0) 0 := by
    have := mapT_shift (gUp 1) (k + 1) (upT t 1 0) 0
    rwa [Int.zero_add] at this
  rw [h1, h2]
  unfold upT
  rw [mapT_map, mapT_map]
  refine mapT_congr (p := fun _ _ => true) (fun x m _ => ?_) t 0 (canB_true t 0)
  unfold gUp
  by_cases h : x ≥ m + k
  · rw [if_pos h, if_pos (by omega), if_pos (show x ≥ m by omega), if_pos (by omega)]
  · rw [if_neg h]
    by_cases h' : x ≥ m
    · rw [if_pos h', if_neg (by omega)]
    · rw [if_neg h', if_neg (by omega)]
theorem may_sub {t x : Tm} (hx : x ∈ t.args) (h : mayB t = true) : mayB x = true := by
  obtain ⟨h1, h2, h3⟩ := may_parts h
  have hs := size_arg hx
  have hd := depth_arg hx
  refine may_of ?_ (by omega) (by omega)
  obtain ⟨i, hi, rfl⟩ := List.mem_iff_getElem.1 hx
  rw [arg_eq hi]
  exact node_args h1 i hi
theorem up_mk_heads {k h : Int} {l : List Tm} (hk : heads k = true) (b n : Int) : upT (.mk k h l) b n = .mk k (if k == 4 then gUp b h n else h) (l.map fun x => upT x b n) := by
  unfold upT
  rw [mapT_eq]
  simp only [mk_kind, mk_head, mk_args]
  congr 1
  refine List.ext_getElem (by simp) fun i h1 h2 => ?_
  have hi : i < l.length := by simpa using h2
  simp only [List.getElem_map, List.getElem_range, bnd_none hk, Int.natCast_zero, Int.add_zero]
  have := arg_eq (t := .mk k h l) hi
  simp only [mk_args] at this
  rw [this]
def RUp (s s' : Sb) (j k : Int) : Prop := ∀ i : Int, 0 ≤ i → ofS s' (gUp 1 i j) = upT (ofS s i) 1 k
theorem RUp.under {s s' : Sb} {j k : Int} (h : RUp s s' j k) (hs : 0 ≤ s.sh) (hs' : 0 ≤ s'.sh) (hj : 0 ≤ j) (hk : 0 ≤ k) : RUp (underS s) (underS s') (j + 1) (k + 1) := by
  intro i hi
  rcases Int.lt_or_le 0 i with h1 | h1
  · have e : gUp 1 i (j + 1) = gUp 1 (i - 1) j + 1 := by unfold gUp; split <;> split <;> omega
    have hg : 0 ≤ gUp 1 (i - 1) j := by unfold gUp; split <;> omega
    have hu := of_under s (i := i - 1) (by omega) hs
    rw [show i - 1 + 1 = i by omega] at hu
    rw [e, of_under s' hg hs', h (i - 1) (by omega), hu, up_swap _ hk]
  · obtain rfl : i = 0 := by omega
    have e : gUp 1 0 (j + 1) = 0 := by unfold gUp; rw [if_neg (by omega)]
    rw [e, of_under0, of_under0]
    unfold var0
    rw [up_mk_heads rfl]
    have : gUp 1 0 (k + 1) = 0 := by unfold gUp; rw [if_neg (by omega)]
    rw [this]; rfl
theorem RUp.one (a : Tm) {k : Int} (hk : 0 ≤ k) : RUp ⟨[a], 0⟩ ⟨[upT a 1 k], 0⟩ (k + 1) k := by
  intro i hi
  rcases Int.lt_or_le 0 i with h1 | h1
  · have h2 : ofS ⟨[a], 0⟩ i = .mk 4 (i - 1) [] := by
      unfold ofS
      rw [if_neg (by simp; omega)]
      congr 1
      simp
    have hg : 0 < gUp 1 i (k + 1) := by unfold gUp; split <;> omega
    have h3 : ofS ⟨[upT a 1 k], 0⟩ (gUp 1 i (k + 1)) = .mk 4 (gUp 1 i (k + 1) - 1) [] := by
      unfold ofS
      rw [if_neg (by simp; omega)]
      congr 1
      simp
    rw [h2, h3, up_mk_heads rfl]
    have : gUp 1 i (k + 1) - 1 = gUp 1 (i - 1) k := by unfold gUp; split <;> split <;> omega
    rw [this]; rfl
  · obtain rfl : i = 0 := by omega
    have e : gUp 1 0 (k + 1) = 0 := by unfold gUp; rw [if_neg (by omega)]
    rw [e]; rfl
/-! ### contexts -/
theorem varW_zero (c : List Tm) (a : Tm) : varW (c ++ [a]) 0 = (upT a 1 0, 0) := by
  rw [varW_lt (by simp)]
  have e1 : (c ++ [a]).getD ((c ++ [a]).length - 1 - (0 : Int).toNat) default = a := by
    rw [List.getD_eq_getElem?_getD]; simp
  rw [e1]; rfl
theorem varW_succ (c : List Tm) (a : Tm) {h : Int} (h0 : 0 ≤ h) (hl : h < c.length) : varW (c ++ [a]) (h + 1) = (upT (varW c h).1 1 0, 0) := by
  rw [varW_lt (by simp; omega), varW_lt hl]
  have e1 : (c ++ [a]).getD ((c ++ [a]).length - 1 - (h + 1).toNat) default = c.getD (c.length - 1 - h.toNat) default := by
    rw [getD_append_l (by simp; omega)]
    congr 1
    simp; omega
  rw [e1, up_up _ (by omega) 1 0]
structure WkC (c c' : List Tm) (k : Int) : Prop where
  len : c'.length = c.length + 1
  k0 : 0 ≤ k
  kl : k ≤ c.length
  look : ∀ h : Int, 0 ≤ h → h < c.length → varW c' (gUp 1 h k) = (upT (varW c h).1 1 k, 0)
theorem WkC.more {c c' : List Tm} {k : Int} (hw : WkC c c' k) (a : Tm) : WkC (c ++ [a]) (c' ++ [upT a 1 k]) (k + 1) := by
  have hl := hw.len
  have hk := hw.k0
  have hkl := hw.kl
  refine ⟨by simp [hl], by omega, by simp; omega, fun h h0 hh => ?_⟩
  simp at hh
  rcases Int.lt_or_le 0 h with h1 | h1
  · have e : gUp 1 h (k + 1) = gUp 1 (h - 1) k + 1 := by unfold gUp; split <;> split <;> omega
    have hg : 0 ≤ gUp 1 (h - 1) k ∧ gUp 1 (h - 1) k < c'.length := by unfold gUp; split <;> omega
    have hv := varW_succ c a (h := h - 1) (by omega) (by omega)
    rw [show h - 1 + 1 = h by omega] at hv
    rw [e, varW_succ c' _ hg.1 hg.2, hw.look (h - 1) (by omega) (by omega), hv, up_swap _ hk]
  · obtain rfl : h = 0 := by omega
    have e : gUp 1 0 (k + 1) = 0 := by unfold gUp; rw [if_neg (by omega)]
    rw [e, varW_zero, varW_zero, up_swap _ hk]
structure Closed (w : Wd) : Prop where
  may : ∀ x ∈ w.sig, mayB x = true
  scp : ∀ x ∈ w.sig, scopedB x 0 0 = true
  metas : w.metas = []
end Go.Proofs.Ytkmpfdecjmnccaa
/- Laws of layer 10: signatures in order; CheckFront. -/
set_option linter.unusedSimpArgs false
set_option linter.unusedVariables false
set_option maxRecDepth 100000
namespace Go.Proofs.Ytkmpfdecjmnccaa
open Go.Proofs
def sigB (sg : List Dc) (i : Nat) : Bool := TypR (Wo.wd ⟨sg.take i, [], []⟩) [] (Dcs.at sg i).t == 0 || KindR (Wo.wd ⟨sg.take i, [], []⟩) [] (Dcs.at sg i).t == 0
theorem sigB_closed {sg : List Dc} {i : Nat} (h : sigB sg i = true) : mayB (Dcs.at sg i).t = true ∧ scopedB (Dcs.at sg i).t 0 0 = true := by
  unfold sigB at h
  rw [Bool.or_eq_true, beq_iff_eq, beq_iff_eq] at h
  rcases h with h | h
  · obtain ⟨h1, h2⟩ := TypR_ok h
    have hm := mayW_of h1 _ (List.mem_singleton.2 rfl)
    exact ⟨hm, typ_scoped _ _ _ (may_parts hm).1 h2⟩
  · obtain ⟨h1, h2⟩ := KindR_ok h
    have hm := mayW_of h1 _ (List.mem_singleton.2 rfl)
    exact ⟨hm, kind_scoped _ _ _ (may_parts hm).1 h2⟩
theorem closed_vle {x : Tm} (h : mayB x = true ∧ scopedB x 0 0 = true) : vleB 2097152 x = true := by
  have := (may_parts h.1).2.1
  exact vle_mono (by omega) (scoped_vle x 0 0 h.2)
theorem mem_takeD {sg : List Dc} {i : Nat} (hi : i ≤ sg.length) {d : Dc} (h : d ∈ sg.take i) : ∃ j, j < i ∧ d = Dcs.at sg j := by
  obtain ⟨j, hj, rfl⟩ := List.mem_iff_getElem.1 h
  simp only [List.length_take] at hj
  refine ⟨j, by omega, ?_⟩
  rw [List.getElem_take]
  have := dat_get (l := sg) (i := j) (by omega)
  rw [List.getElem?_eq_getElem (by omega)] at this
  simpa using this
theorem sig_in {sg : List Dc} {cx : List Tm} (hw : WSz ⟨sg, [], cx⟩) {i : Nat} (hi : i ≤ sg.length) (h : ∀ j, j < i → sigB sg j = true) : WIn 2097152 ⟨sg.take i, [], []⟩ := by
  have hr : room = 1099511627776 := rfl
  have htv : topV = 1125899906842624 := rfl
  have hsl := hw.sl
  have hsl : sg.length < room := hsl
  refine ⟨⟨by show 0 < room; decide, by simp, by simp; omega, fun d hd => hw.sz d (List.mem_of_mem_take hd), by show 0 < room; decide, by simp⟩, by decide, by rw [htv]; decide, by simp, fun d hd => ?_, by simp⟩
  obtain ⟨j, hj, rfl⟩ := mem_takeD hi hd
  exact closed_vle (sigB_closed (h j hj))
theorem mem_takeT {cx : List Tm} {i : Nat} (hi : i ≤ cx.length) {x : Tm} (h : x ∈ cx.take i) : ∃ j, j < i ∧ x = cx.getD j default := by
  obtain ⟨j, hj, rfl⟩ := List.mem_iff_getElem.1 h
  simp only [List.length_take] at hj
  refine ⟨j, by omega, ?_⟩
  rw [List.getElem_take]
  have := getD_get (a := cx) (i := j) (by omega)
  rw [List.getElem?_eq_getElem (by omega)] at this
  simpa using this
end Go.Proofs.Ytkmpfdecjmnccaa
