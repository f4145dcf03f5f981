/- The package world: first, Sig, Ctx, Schema. -/
import Derived.Test.YtkmpfdecjmnccaaB3
set_option linter.unusedSimpArgs false
set_option linter.unusedVariables false
set_option maxRecDepth 100000
namespace Go.Proofs.Ytkmpfdecjmnccaa
open Go.Proofs
def fstR (W : Nat → Int) : Nat → Nat → Int × Int
  | 0, _ => (0, 0)
  | k + 1, i => if W i ≠ 0 then ((i : Int), W i) else fstR W k (i + 1)
def firstR (W : Nat → Int) (n : Nat) : Int × Int := if (n : Int) > 40 then (0, 4) else fstR W n 0
def DoesW (g : Nat) (caps : List AV) (h : List HO) (X : List Dv) (W : Nat → Int) : Prop :=
  ∀ i x, X[i]? = some x → (∀ j, j < i → W j = 0) → ∀ (locs : List (Option (List AV))) (toks : List (Option Nat)), mCall C (lim C) g (dI i :: .d x :: caps) { locs := locs, heap := h, toks := toks } = some (.v (dI (W i)), { locs := locs, heap := h, toks := toks })
def fi_out (X : AV) (n : Nat) (g : Nat) (caps : List AV) (h : List HO) (r : Int × Int) : Ex × St :=
  if r.2 = 0 then (.exit 0, mk 28 [(1, .fn g [] caps), (12, X), (13, dI n), (14, dI n), (15, dB false)] [] h []) else (.ret, mk 28 [(4, dI r.1), (5, dI r.2)] [] h [])
theorem fi_err (X : AV) (n : Nat) (g : Nat) (caps : List AV) (h : List HO) (i e : Int) (he : e ≠ 0) : fi_out X n g caps h (i, e) = (.ret, mk 28 [(4, dI i), (5, dI e)] [] h []) := if_neg he
theorem fstR_zero (W : Nat → Int) : ∀ k i, (fstR W k i).2 = 0 → fstR W k i = (0, 0)
  | 0, i, _ => rfl
  | k + 1, i, h => by
    simp only [fstR] at h ⊢
    by_cases he : W i = 0
    · rw [if_neg (by simpa using he)] at h ⊢; exact fstR_zero W k (i + 1) h
    · rw [if_pos he] at h; exact absurd h he
def fiT_S (l : List Tm) (g : Nat) (caps : List AV) (h : List HO) (i : Nat) : St := mk 28 [(1, .fn g [] caps), (12, .d (.slc (encs l))), (13, dI l.length), (14, dI i)] [] h []
theorem fiT_loop {g : Nat} {caps : List AV} {h : List HO} {l : List Tm} {W : Nat → Int} (hd : DoesW g caps h (encs l) W) (hl : l.length < room) : ∀ k i, i + k = l.length → (∀ j, j < i → W j = 0) →
    (lim C).code 35 (.loop (cf (cf (cs (cf (cs (cs (bodyOf Try.f35)))))))) (fiT_S l g caps h i) = some (fi_out (.d (.slc (encs l))) l.length g caps h (fstR W k i))
  | 0, i, hi, hp => by
    obtain rfl : i = l.length := by omega
    simp only [fstR, fi_out, if_true]
    refine loop_out' ?_ (by simp)
    simp -implicitDefEqProofs (disch := decide +kernel) only [cf, cs, bodyOf, Try.f35, Option.getD_some, go_sem, ↓reduceIte, Nat.reduceSub, Nat.reduceAdd, Nat.reduceMul, Nat.reduceBEq, Nat.reduceLT, Nat.reduceLeDiff, Nat.reduceEqDiff, reduceCtorEq, Int.reduceToNat, Int.reduceLE, Int.reduceLT, Int.reduceBEq, Int.reduceBNe, fiT_S, lt_false (Nat.le_refl l.length)]
  | k + 1, i, hi, hp => by
    have hr : room = 1099511627776 := rfl
    have hlt : i < l.length := by omega
    have hc := hd i _ (by rw [encs_get, getD_get hlt]; rfl) hp
    simp only [fstR]
    by_cases he : W i = 0
    · rw [if_neg (by simpa using he)]
      rw [he] at hc
      have h00 : ((0 : Int) != 0) = false := rfl
      refine (loop_nor' (σ' := fiT_S l g caps h (i + 1)) ?_).trans (fiT_loop hd hl k (i + 1) (by omega) fun j hj => ?_)
      · simp -implicitDefEqProofs (disch := decide +kernel) only [cf, cs, bodyOf, Try.f35, Option.getD_some, go_sem, ↓reduceIte, Nat.reduceSub, Nat.reduceAdd, Nat.reduceMul, Nat.reduceBEq, Nat.reduceLT, Nat.reduceLeDiff, Nat.reduceEqDiff, reduceCtorEq, Int.reduceToNat, Int.reduceLE, Int.reduceLT, Int.reduceBEq, Int.reduceBNe, fiT_S, lt_true hlt, getD_get hlt, hc, h00, cells_enc, cel3, wrap_succ (n := i) (by omega)]
      · rcases Nat.lt_or_ge j i with h3 | h3
        · exact hp j h3
        · obtain rfl : j = i := by omega
          exact he
    · rw [if_pos he, fi_err _ _ _ _ _ _ _ he]
      have he' : (W i != 0) = true := by simpa using he
      refine loop_out' ?_ (by simp)
      simp -implicitDefEqProofs (disch := decide +kernel) only [cf, cs, bodyOf, Try.f35, Option.getD_some, go_sem, ↓reduceIte, Nat.reduceSub, Nat.reduceAdd, Nat.reduceMul, Nat.reduceBEq, Nat.reduceLT, Nat.reduceLeDiff, Nat.reduceEqDiff, reduceCtorEq, Int.reduceToNat, Int.reduceLE, Int.reduceLT, Int.reduceBEq, Int.reduceBNe, fiT_S, lt_true hlt, getD_get hlt, hc, he', cells_enc, cel3]
theorem fstT_spec {g : Nat} {caps : List AV} {h : List HO} {l : List Tm} {W : Nat → Int} (hd : DoesW g caps h (encs l) W) (hl : l.length < room) (hc1 : okL caps = true) (hc2 : eraseL caps = caps) :
    (lim C).call 35 [.d (.slc (encs l)), .fn g [] caps] h = some (.ret (.tup [dI (firstR W l.length).1, dI (firstR W l.length).2]), h) := by
  unfold firstR
  rw [ev_fn 35 Try.f35 _ _ _ rfl Try.func35 rfl Try.ntmps35 rfl]
  cases k1 : decide ((l.length : Int) > 40)
  · rw [if_neg (by simpa using k1)]
    have hloop := fiT_loop hd hl l.length 0 (by omega) (fun j hj => by omega)
    have hz : (fstR W l.length 0).2 = 0 → fstR W l.length 0 = (0, 0) := fstR_zero W l.length 0
    generalize fstR W l.length 0 = r at hloop hz ⊢
    obtain ⟨i, e⟩ := r
    simp -implicitDefEqProofs (disch := decide +kernel) only [go_sem, ↓reduceIte, Nat.reduceSub, Nat.reduceAdd, Nat.reduceMul, Nat.reduceBEq, Nat.reduceLT, Nat.reduceLeDiff, Nat.reduceEqDiff, reduceCtorEq, Int.reduceToNat, Int.reduceLE, Int.reduceLT, Int.reduceBEq, Int.reduceBNe, hc1, hc2, k1]
    rw [loop_at hloop ?hb ?hs]
    case hb => rfl
    case hs => rfl
    by_cases he : e = 0
    · subst he
      obtain rfl : i = 0 := congrArg Prod.fst (hz rfl)
      simp only [fi_out, if_true]
      simp -implicitDefEqProofs (disch := decide +kernel) only [go_sem, ↓reduceIte, Nat.reduceSub, Nat.reduceAdd, Nat.reduceMul, Nat.reduceBEq, Nat.reduceLT, Nat.reduceLeDiff, Nat.reduceEqDiff, reduceCtorEq, Int.reduceToNat, Int.reduceLE, Int.reduceLT, Int.reduceBEq, Int.reduceBNe]
    · rw [fi_err _ _ _ _ _ _ _ he]
      simp -implicitDefEqProofs (disch := decide +kernel) only [go_sem, ↓reduceIte, Nat.reduceSub, Nat.reduceAdd, Nat.reduceMul, Nat.reduceBEq, Nat.reduceLT, Nat.reduceLeDiff, Nat.reduceEqDiff, reduceCtorEq, Int.reduceToNat, Int.reduceLE, Int.reduceLT, Int.reduceBEq, Int.reduceBNe]
  · rw [if_pos (by simpa using k1)]
    simp -implicitDefEqProofs (disch := decide +kernel) only [go_sem, ↓reduceIte, Nat.reduceSub, Nat.reduceAdd, Nat.reduceMul, Nat.reduceBEq, Nat.reduceLT, Nat.reduceLeDiff, Nat.reduceEqDiff, reduceCtorEq, Int.reduceToNat, Int.reduceLE, Int.reduceLT, Int.reduceBEq, Int.reduceBNe, hc1, hc2, k1]
def fiD_S (l : List Dc) (g : Nat) (caps : List AV) (h : List HO) (i : Nat) : St := mk 28 [(1, .fn g [] caps), (12, .d (.slc (encDs l))), (13, dI l.length), (14, dI i)] [] h []
theorem fiD_loop {g : Nat} {caps : List AV} {h : List HO} {l : List Dc} {W : Nat → Int} (hd : DoesW g caps h (encDs l) W) (hl : l.length < room) : ∀ k i, i + k = l.length → (∀ j, j < i → W j = 0) →
    (lim C).code 28 (.loop (cf (cf (cs (cf (cs (cs (bodyOf Try.f28)))))))) (fiD_S l g caps h i) = some (fi_out (.d (.slc (encDs l))) l.length g caps h (fstR W k i))
  | 0, i, hi, hp => by
    obtain rfl : i = l.length := by omega
    simp only [fstR, fi_out, if_true]
    refine loop_out' ?_ (by simp)
    simp -implicitDefEqProofs (disch := decide +kernel) only [cf, cs, bodyOf, Try.f28, Option.getD_some, go_sem, ↓reduceIte, Nat.reduceSub, Nat.reduceAdd, Nat.reduceMul, Nat.reduceBEq, Nat.reduceLT, Nat.reduceLeDiff, Nat.reduceEqDiff, reduceCtorEq, Int.reduceToNat, Int.reduceLE, Int.reduceLT, Int.reduceBEq, Int.reduceBNe, fiD_S, lt_false (Nat.le_refl l.length)]
  | k + 1, i, hi, hp => by
    have hr : room = 1099511627776 := rfl
    have hlt : i < l.length := by omega
    have hc := hd i _ (by rw [encDs_get, dat_get hlt]; rfl) hp
    simp only [fstR]
    by_cases he : W i = 0
    · rw [if_neg (by simpa using he)]
      rw [he] at hc
      have h00 : ((0 : Int) != 0) = false := rfl
      refine (loop_nor' (σ' := fiD_S l g caps h (i + 1)) ?_).trans (fiD_loop hd hl k (i + 1) (by omega) fun j hj => ?_)
      · simp -implicitDefEqProofs (disch := decide +kernel) only [cf, cs, bodyOf, Try.f28, Option.getD_some, go_sem, ↓reduceIte, Nat.reduceSub, Nat.reduceAdd, Nat.reduceMul, Nat.reduceBEq, Nat.reduceLT, Nat.reduceLeDiff, Nat.reduceEqDiff, reduceCtorEq, Int.reduceToNat, Int.reduceLE, Int.reduceLT, Int.reduceBEq, Int.reduceBNe, fiD_S, lt_true hlt, dat_get hlt, hc, h00, cells_encD, wrap_succ (n := i) (by omega)]
      · rcases Nat.lt_or_ge j i with h3 | h3
        · exact hp j h3
        · obtain rfl : j = i := by omega
          exact he
    · rw [if_pos he, fi_err _ _ _ _ _ _ _ he]
      have he' : (W i != 0) = true := by simpa using he
      refine loop_out' ?_ (by simp)
      simp -implicitDefEqProofs (disch := decide +kernel) only [cf, cs, bodyOf, Try.f28, Option.getD_some, go_sem, ↓reduceIte, Nat.reduceSub, Nat.reduceAdd, Nat.reduceMul, Nat.reduceBEq, Nat.reduceLT, Nat.reduceLeDiff, Nat.reduceEqDiff, reduceCtorEq, Int.reduceToNat, Int.reduceLE, Int.reduceLT, Int.reduceBEq, Int.reduceBNe, fiD_S, lt_true hlt, dat_get hlt, hc, he', cells_encD]
theorem fstD_spec {g : Nat} {caps : List AV} {h : List HO} {l : List Dc} {W : Nat → Int} (hd : DoesW g caps h (encDs l) W) (hl : l.length < room) (hc1 : okL caps = true) (hc2 : eraseL caps = caps) :
    (lim C).call 28 [.d (.slc (encDs l)), .fn g [] caps] h = some (.ret (.tup [dI (firstR W l.length).1, dI (firstR W l.length).2]), h) := by
  unfold firstR
  rw [ev_fn 28 Try.f28 _ _ _ rfl Try.func28 rfl Try.ntmps28 rfl]
  cases k1 : decide ((l.length : Int) > 40)
  · rw [if_neg (by simpa using k1)]
    have hloop := fiD_loop hd hl l.length 0 (by omega) (fun j hj => by omega)
    have hz : (fstR W l.length 0).2 = 0 → fstR W l.length 0 = (0, 0) := fstR_zero W l.length 0
    generalize fstR W l.length 0 = r at hloop hz ⊢
    obtain ⟨i, e⟩ := r
    simp -implicitDefEqProofs (disch := decide +kernel) only [go_sem, ↓reduceIte, Nat.reduceSub, Nat.reduceAdd, Nat.reduceMul, Nat.reduceBEq, Nat.reduceLT, Nat.reduceLeDiff, Nat.reduceEqDiff, reduceCtorEq, Int.reduceToNat, Int.reduceLE, Int.reduceLT, Int.reduceBEq, Int.reduceBNe, hc1, hc2, k1]
    rw [loop_at hloop ?hb ?hs]
    case hb => rfl
    case hs => rfl
    by_cases he : e = 0
    · subst he
      obtain rfl : i = 0 := congrArg Prod.fst (hz rfl)
      simp only [fi_out, if_true]
      simp -implicitDefEqProofs (disch := decide +kernel) only [go_sem, ↓reduceIte, Nat.reduceSub, Nat.reduceAdd, Nat.reduceMul, Nat.reduceBEq, Nat.reduceLT, Nat.reduceLeDiff, Nat.reduceEqDiff, reduceCtorEq, Int.reduceToNat, Int.reduceLE, Int.reduceLT, Int.reduceBEq, Int.reduceBNe]
    · rw [fi_err _ _ _ _ _ _ _ he]
      simp -implicitDefEqProofs (disch := decide +kernel) only [go_sem, ↓reduceIte, Nat.reduceSub, Nat.reduceAdd, Nat.reduceMul, Nat.reduceBEq, Nat.reduceLT, Nat.reduceLeDiff, Nat.reduceEqDiff, reduceCtorEq, Int.reduceToNat, Int.reduceLE, Int.reduceLT, Int.reduceBEq, Int.reduceBNe]
  · rw [if_pos (by simpa using k1)]
    simp -implicitDefEqProofs (disch := decide +kernel) only [go_sem, ↓reduceIte, Nat.reduceSub, Nat.reduceAdd, Nat.reduceMul, Nat.reduceBEq, Nat.reduceLT, Nat.reduceLeDiff, Nat.reduceEqDiff, reduceCtorEq, Int.reduceToNat, Int.reduceLE, Int.reduceLT, Int.reduceBEq, Int.reduceBNe, hc1, hc2, k1]
def sigW (sg : List Dc) (i : Nat) : Int := if isKind (Dcs.at sg i).t then KindR (Wo.wd ⟨sg.take i, [], []⟩) [] (Dcs.at sg i).t else TypR (Wo.wd ⟨sg.take i, [], []⟩) [] (Dcs.at sg i).t
theorem sigW_B {sg : List Dc} {i : Nat} (h : sigW sg i = 0) : sigB sg i = true := by
  unfold sigW at h
  unfold sigB
  rw [Bool.or_eq_true, beq_iff_eq, beq_iff_eq]
  split at h
  · exact .inr h
  · exact .inl h
def SigR (sg : List Dc) : Int × Int := firstR (sigW sg) sg.length
theorem wsig1_spec {sg : List Dc} (hw : WSz ⟨sg, [], []⟩) {i : Nat} (hi : i < sg.length) (hp : ∀ j, j < i → sigW sg j = 0) :
    (lim C).call 29 [dI i, dDc (Dcs.at sg i), .href 0 0] [.var 0 [dDs sg]] = some (.ret (dI (sigW sg i)), [.var 0 [dDs sg]]) := by
  have hr : room = 1099511627776 := rfl
  have hin := sig_in hw (Nat.le_of_lt hi) (fun j hj => sigW_B (hp j hj))
  have zt := hw.sz _ (dat_mem hi)
  obtain ⟨h1, c1⟩ := cType_spec hin (Dcs.at sg i).t zt
  obtain ⟨h2, c2⟩ := cKind_spec hin (Dcs.at sg i).t zt
  have c1 : (lim C).call 15 [.d (.slc (encDs (sg.take i))), .d (.slc []), .d (.slc []), dT (Dcs.at sg i).t] [] = some (.ret (dI (TypR (Wo.wd ⟨sg.take i, [], []⟩) [] (Dcs.at sg i).t)), h1) := c1
  have c2 : (lim C).call 31 [.d (.slc (encDs (sg.take i))), .d (.slc []), .d (.slc []), dT (Dcs.at sg i).t] [] = some (.ret (dI (KindR (Wo.wd ⟨sg.take i, [], []⟩) [] (Dcs.at sg i).t)), h2) := c2
  rw [encDs_take] at c1 c2
  have hle : i ≤ sg.length := by omega
  have hk := skind_spec (Dcs.at sg i).t
  have hk' : isKind (Dcs.at sg i).t = ((lastOf (Dcs.at sg i).t).kind == 0) := rfl
  unfold sigW
  rw [hk']
  rw [ev_fn 29 Try.f29 _ _ _ rfl Try.func29 rfl Try.ntmps29 rfl]
  cases k1 : ((lastOf (Dcs.at sg i).t).kind == 0)
  · rw [k1] at hk
    simp -implicitDefEqProofs (disch := decide +kernel) only [go_sem, ↓reduceIte, Nat.reduceSub, Nat.reduceAdd, Nat.reduceMul, Nat.reduceBEq, Nat.reduceLT, Nat.reduceLeDiff, Nat.reduceEqDiff, reduceCtorEq, Int.reduceToNat, Int.reduceLE, Int.reduceLT, Int.reduceBEq, Int.reduceBNe, mCall, hk, c1, Nat.zero_le, hle, encDs_all, cells_encD, (enc_eq (Dcs.at sg i).t).symm]
  · rw [k1] at hk
    simp -implicitDefEqProofs (disch := decide +kernel) only [go_sem, ↓reduceIte, Nat.reduceSub, Nat.reduceAdd, Nat.reduceMul, Nat.reduceBEq, Nat.reduceLT, Nat.reduceLeDiff, Nat.reduceEqDiff, reduceCtorEq, Int.reduceToNat, Int.reduceLE, Int.reduceLT, Int.reduceBEq, Int.reduceBNe, mCall, hk, c2, Nat.zero_le, hle, encDs_all, cells_encD, (enc_eq (Dcs.at sg i).t).symm]
theorem wSig_spec (sg : List Dc) (hw : WSz ⟨sg, [], []⟩) : ∃ h, (lim C).call 12 [dDs sg] [] = some (.ret (.tup [dI (SigR sg).1, dI (SigR sg).2]), h) := by
  have hd : DoesW 29 [.href 0 0] [.var 0 [dDs sg]] (encDs sg) (sigW sg) := by
    intro i x hx hp locs toks
    rw [encDs_get] at hx
    obtain ⟨d, hdd, rfl⟩ := Option.map_eq_some_iff.1 hx
    obtain ⟨hlt, hat⟩ := getD_of_get hdd
    have hat : Dcs.at sg i = d := hat
    have hc := wsig1_spec hw hlt hp
    rw [hat] at hc
    simp only [mCall, callsPure, pureL, AV.pure, okL, AV.okA, C_thr, eraseL, AV.erase, Bool.and_true, Bool.true_and, Bool.and_false, Bool.false_and, Bool.false_eq_true, if_false, if_true, Option.bind_some, heapRes_ret, hc]
  have hf := fstD_spec hd hw.sl rfl rfl
  refine ⟨[.var 0 [dDs sg]], ?_⟩
  unfold SigR
  generalize firstR (sigW sg) sg.length = r at hf ⊢
  rw [ev_fn 12 Try.f12 _ _ _ rfl Try.func12 rfl Try.ntmps12 rfl]
  simp -implicitDefEqProofs (disch := decide +kernel) only [go_sem, ↓reduceIte, Nat.reduceSub, Nat.reduceAdd, Nat.reduceMul, Nat.reduceBEq, Nat.reduceLT, Nat.reduceLeDiff, Nat.reduceEqDiff, reduceCtorEq, Int.reduceToNat, Int.reduceLE, Int.reduceLT, Int.reduceBEq, Int.reduceBNe, mCall, hf]
def ctxW (w : Wd) (ar cx : List Tm) (i : Nat) : Int := TypR w (ar ++ cx.take i) (cx.getD i default)
def CtxWR (w : Wd) (ar cx : List Tm) : Int := (firstR (ctxW w ar cx) cx.length).2
theorem typ0_vle {w : Wd} {c : List Tm} {x : Tm} (h : TypR w c x = 0) : mayB x = true ∧ vleB 2097152 x = true := by
  obtain ⟨h1, h2⟩ := TypR_ok h
  have hm := mayW_of h1 _ (List.mem_singleton.2 rfl)
  have hs := typ_scoped _ _ _ (may_parts hm).1 h2
  have hz := (may_parts hm).2.1
  unfold mayW at h1
  simp only [Bool.and_eq_true, Bool.not_eq_true', decide_eq_false_iff_not] at h1
  have hl := h1.1.1.1.1
  exact ⟨hm, vle_mono (by omega) (scoped_vle _ _ _ hs)⟩
theorem ctx_in2 {K : Int} {sg : List Dc} {ms : List Md} {ar cx : List Tm} (hin : WIn K ⟨sg, ms, ar⟩) (hcz : ∀ x ∈ cx, x.size < room) (hcl : ar.length + cx.length < room) {i : Nat} (hi : i ≤ cx.length) (hp : ∀ j, j < i → ctxW (Wo.wd ⟨sg, ms, ar⟩) ar cx j = 0) : WIn K ⟨sg, ms, ar ++ cx.take i⟩ := by
  have hk := hin.hk
  refine hin.cons (c := ar ++ cx.take i) (fun x hx => ?_) (by simp; omega)
  rcases List.mem_append.1 hx with hx | hx
  · exact ⟨hin.sz.cz x hx, hin.ctx x hx⟩
  · refine ⟨hcz x (List.mem_of_mem_take hx), ?_⟩
    obtain ⟨j, hj, rfl⟩ := mem_takeT hi hx
    exact vle_mono hk (typ0_vle (hp j hj)).2
def cx_H (sg : List Dc) (ms : List Md) (ar cx : List Tm) : List HO := [.var 0 [dDs sg], .var 0 [dMs ms], .var 0 [dL ar], .var 0 [dL (ar ++ cx)]]
theorem wctx1_spec {K : Int} {sg : List Dc} {ms : List Md} {ar cx : List Tm} (hin : WIn K ⟨sg, ms, ar⟩) (hcz : ∀ x ∈ cx, x.size < room) (hcl : ar.length + cx.length < room) {i : Nat} (hi : i < cx.length) (hp : ∀ j, j < i → ctxW (Wo.wd ⟨sg, ms, ar⟩) ar cx j = 0) :
    (lim C).call 36 [dI i, dT (cx.getD i default), .href 0 0, .href 1 0, .href 3 0, .href 2 0] (cx_H sg ms ar cx) = some (.ret (dI (ctxW (Wo.wd ⟨sg, ms, ar⟩) ar cx i)), cx_H sg ms ar cx) := by
  have hr : room = 1099511627776 := rfl
  have hin2 := ctx_in2 hin hcz hcl (Nat.le_of_lt hi) hp
  obtain ⟨h1, c1⟩ := cType_spec hin2 (cx.getD i default) (hcz _ (getD_mem (a := cx) hi))
  have htk : (encs (ar ++ cx)).take (ar.length + i) = encs (ar ++ cx.take i) := by
    rw [← encs_take, List.take_append]
    congr 2
    · rw [List.take_of_length_le (by omega)]
    · congr 1; omega
  have c1 : (lim C).call 15 [dDs sg, dMs ms, .d (.slc (encs (ar ++ cx.take i))), dT (cx.getD i default)] [] = some (.ret (dI (TypR (Wo.wd ⟨sg, ms, ar⟩) (ar ++ cx.take i) (cx.getD i default))), h1) := c1
  rw [← htk] at c1
  have hw1 : IntKind.wrap .i64 ((ar.length : Int) + i) = ((ar.length + i : Nat) : Int) := by rw [wrap_ok (by omega) (by omega)]; omega
  have hle : ar.length + i ≤ (ar ++ cx).length := by simp; omega
  have h0 : (0 : Int) ≤ ((ar.length + i : Nat) : Int) := by omega
  have hT : (((ar.length + i : Nat) : Int)).toNat = ar.length + i := by omega
  unfold ctxW
  simp only [cx_H]
  rw [ev_fn 36 Try.f36 _ _ _ rfl Try.func36 rfl Try.ntmps36 rfl]
  simp -implicitDefEqProofs (disch := decide +kernel) only [go_sem, ↓reduceIte, Nat.reduceSub, Nat.reduceAdd, Nat.reduceMul, Nat.reduceBEq, Nat.reduceLT, Nat.reduceLeDiff, Nat.reduceEqDiff, reduceCtorEq, Int.reduceToNat, Int.reduceLE, Int.reduceLT, Int.reduceBEq, Int.reduceBNe, mCall, cx_H, hw1, hle, h0, hT, encs_all, Nat.zero_le, c1, cells_enc, cel3, (enc_eq (cx.getD i default)).symm]
theorem wCtx_spec {K : Int} {sg : List Dc} {ms : List Md} {ar : List Tm} (hin : WIn K ⟨sg, ms, ar⟩) (cx : List Tm) (hcz : ∀ x ∈ cx, x.size < room) (hcl : ar.length + cx.length < room) : ∃ h, (lim C).call 14 [dDs sg, dMs ms, dL ar, dL cx] [] = some (.ret (dI (CtxWR (Wo.wd ⟨sg, ms, ar⟩) ar cx)), h) := by
  have hd : DoesW 36 [.href 0 0, .href 1 0, .href 3 0, .href 2 0] (cx_H sg ms ar cx) (encs cx) (ctxW (Wo.wd ⟨sg, ms, ar⟩) ar cx) := by
    intro i x hx hp locs toks
    rw [encs_get] at hx
    obtain ⟨d, hdd, rfl⟩ := Option.map_eq_some_iff.1 hx
    obtain ⟨hlt, hat⟩ := getD_of_get hdd
    have hc := wctx1_spec hin hcz hcl hlt hp
    rw [hat] at hc
    simp only [mCall, callsPure, pureL, AV.pure, okL, AV.okA, C_thr, eraseL, AV.erase, Bool.and_true, Bool.true_and, Bool.and_false, Bool.false_and, Bool.false_eq_true, if_false, if_true, Option.bind_some, heapRes_ret, hc]
  have hf := fstT_spec hd (by omega) rfl rfl
  have hcc := concat_spec ar cx hcl
  refine ⟨cx_H sg ms ar cx, ?_⟩
  unfold CtxWR
  generalize firstR (ctxW (Wo.wd ⟨sg, ms, ar⟩) ar cx) cx.length = r at hf ⊢
  have hcx : Dv.slc [.slc (encs ar), .slc (encs cx)] = .slc [.slc (encs ar), .slc (encs cx)] := rfl
  simp only [cx_H] at hf ⊢
  rw [ev_fn 14 Try.f14 _ _ _ rfl Try.func14 rfl Try.ntmps14 rfl]
  simp -implicitDefEqProofs (disch := decide +kernel) only [go_sem, ↓reduceIte, Nat.reduceSub, Nat.reduceAdd, Nat.reduceMul, Nat.reduceBEq, Nat.reduceLT, Nat.reduceLeDiff, Nat.reduceEqDiff, reduceCtorEq, Int.reduceToNat, Int.reduceLE, Int.reduceLT, Int.reduceBEq, Int.reduceBNe, mCall, hf, hcc]
end Go.Proofs.Ytkmpfdecjmnccaa
/- Metas that become something: in plain words. -/
set_option linter.unusedVariables false
set_option linter.unusedSimpArgs false
namespace Go.Proofs.Ytkmpfdecjmnccaa
def zT' : Tm := .mk 0 0 []
def firstE (F : Nat → Tm × Int) : Nat → Int
  | 0 => 0
  | k + 1 => if (F 0).2 = 0 then firstE (fun i => F (i + 1)) k else (F 0).2
theorem firstE_zero : ∀ (k : Nat) (F : Nat → Tm × Int), firstE F k = 0 ↔ ∀ i, i < k → (F i).2 = 0
  | 0, F => by simp [firstE]
  | k + 1, F => by
    simp only [firstE]
    by_cases h : (F 0).2 = 0
    · rw [if_pos h, firstE_zero k]
      constructor
      · intro hk i hi
        cases i with
        | zero => exact h
        | succ i => exact hk i (by omega)
      · exact fun hk i hi => hk (i + 1) (by omega)
    · rw [if_neg h]
      exact ⟨fun e => absurd e h, fun hk => hk 0 (by omega)⟩
theorem firstE_at : ∀ (k : Nat) (F : Nat → Tm × Int), firstE F k ≠ 0 → ∃ j, j < k ∧ (F j).2 = firstE F k ∧ ∀ i, i < j → (F i).2 = 0
  | 0, F, h => absurd rfl h
  | k + 1, F, h => by
    simp only [firstE] at h ⊢
    by_cases h0 : (F 0).2 = 0
    · rw [if_pos h0] at h ⊢
      obtain ⟨j, h1, h2, h3⟩ := firstE_at k _ h
      refine ⟨j + 1, by omega, h2, fun i hi => ?_⟩
      cases i with
      | zero => exact h0
      | succ i => exact h3 i (by omega)
    · rw [if_neg h0]
      exact ⟨0, by omega, rfl, fun i hi => by omega⟩
theorem firstE_congr {k : Nat} {F G : Nat → Tm × Int} (h : ∀ i, i < k → F i = G i) : firstE F k = firstE G k := by
  induction k generalizing F G with
  | zero => rfl
  | succ k ih =>
    simp only [firstE, h 0 (by omega)]
    rw [ih fun i hi => h (i + 1) (by omega)]
def fillN (A : Tm → Sb → Tm × Int) (mayL : List Tm → Bool) (th : List Tm) (k h : Int) (args : List Tm) (n : Int) : Tm × Int :=
  if k ≠ 6 then (.mk k h args, 0) else if h ≥ th.length then (zT', 2) else if mayL args then A (th.getD h.toNat default) ⟨args, n⟩ else (zT', 4)
def fillT (A : Tm → Sb → Tm × Int) (mayL : List Tm → Bool) (th : List Tm) : Tm → Int → Tm × Int
  | .mk k h l, n =>
    let F : Nat → Tm × Int := fun i => if hi : i < l.length then fillT A mayL th l[i] (n + bnd (.mk k h l) i) else default
    if firstE F l.length = 0 then fillN A mayL th k h ((List.range l.length).map fun i => (F i).1) n else (zT', firstE F l.length)
decreasing_by
  have := List.sizeOf_lt_of_mem (List.getElem_mem hi)
  simp only [Tm.mk.sizeOf_spec]
  omega
section
variable {A : Tm → Sb → Tm × Int} {mayL : List Tm → Bool} {th : List Tm}
def fillF (A : Tm → Sb → Tm × Int) (mayL : List Tm → Bool) (th : List Tm) (t : Tm) (n : Int) (i : Nat) : Tm × Int := fillT A mayL th (t.arg i) (n + bnd t i)
theorem fillT_eq (t : Tm) (n : Int) : fillT A mayL th t n = if firstE (fillF A mayL th t n) t.args.length = 0 then fillN A mayL th t.kind t.head ((List.range t.args.length).map fun i => (fillF A mayL th t n i).1) n else (zT', firstE (fillF A mayL th t n) t.args.length) := by
  obtain ⟨k, h, l⟩ := t
  rw [fillT]
  have hF : ∀ i, i < l.length → (if hi : i < l.length then fillT A mayL th l[i] (n + bnd (.mk k h l) i) else default) = fillF A mayL th (.mk k h l) n i := fun i hi => by
    have := arg_eq (t := .mk k h l) hi
    simp only [Tm.args] at this
    rw [dif_pos hi, this]; rfl
  have h1 := firstE_congr hF
  have h2 : ((List.range l.length).map fun i => (if hi : i < l.length then fillT A mayL th l[i] (n + bnd (.mk k h l) i) else default).1) = (List.range l.length).map fun i => (fillF A mayL th (.mk k h l) n i).1 :=
    List.map_congr_left fun i hi => by rw [hF i (by simpa using hi)]
  by_cases hz : firstE (fillF A mayL th (.mk k h l) n) l.length = 0
  · exact ((if_pos (h1.trans hz)).trans (by rw [h2]; rfl)).trans (if_pos (c := firstE (fillF A mayL th (.mk k h l) n) (Tm.mk k h l).args.length = 0) hz).symm
  · exact ((if_neg (fun e => hz (h1.symm.trans e))).trans (by rw [h1]; rfl)).trans (if_neg (c := firstE (fillF A mayL th (.mk k h l) n) (Tm.mk k h l).args.length = 0) hz).symm
def metasB : Tm → Bool
  | .mk k h l => k == 6 || !(allB l.length fun i => if hi : i < l.length then !metasB l[i] else true)
decreasing_by
  have := List.sizeOf_lt_of_mem (List.getElem_mem hi)
  simp only [Tm.mk.sizeOf_spec]
  omega
theorem metasB_eq (t : Tm) : metasB t = (t.kind == 6 || !(allB t.args.length fun i => !metasB (t.arg i))) := by
  obtain ⟨k, h, l⟩ := t
  rw [metasB]
  congr 2
  refine allB_congr fun i hi => ?_
  have := arg_eq (t := .mk k h l) hi
  simp only [Tm.args] at this
  simp [hi, this]
theorem metasB_no {t : Tm} : metasB t = false ↔ t.kind ≠ 6 ∧ ∀ i, i < t.args.length → metasB (t.arg i) = false := by
  rw [metasB_eq, Bool.or_eq_false_iff, Bool.not_eq_false', allB_iff]
  simp
theorem args_range (t : Tm) : ((List.range t.args.length).map fun i => t.arg i) = t.args := by
  refine List.ext_getElem (by simp) fun i h1 h2 => ?_
  simp [arg_eq h2]
theorem fill_none : ∀ (t : Tm) (n : Int), metasB t = false → fillT A mayL th t n = (t, 0) := by
  refine Tm.ind fun t ih n hm => ?_
  rw [metasB_no] at hm
  have hF : ∀ i, i < t.args.length → fillF A mayL th t n i = (t.arg i, 0) := fun i hi => ih _ (arg_mem hi) _ (hm.2 i hi)
  have h0 : firstE (fillF A mayL th t n) t.args.length = 0 := (firstE_zero _ _).2 fun i hi => by rw [hF i hi]
  have hargs : ((List.range t.args.length).map fun i => (fillF A mayL th t n i).1) = t.args := by
    rw [← args_range t]
    simp only [List.length_map, List.length_range]
    refine List.map_congr_left fun i hi => ?_
    have hi : i < t.args.length := by simpa using hi
    rw [hF i hi]
  rw [fillT_eq, if_pos h0, hargs]
  unfold fillN
  rw [if_pos hm.1, mk_self]
end
end Go.Proofs.Ytkmpfdecjmnccaa
/- Metas that become something, by what subst.Apply comes to; in plain words. -/
set_option linter.unusedSimpArgs false
set_option linter.unusedVariables false
set_option maxRecDepth 100000
namespace Go.Proofs.Ytkmpfdecjmnccaa
open Go.Proofs
abbrev fillM (th : List Tm) (t : Tm) (n : Int) : Tm × Int := fillT applyR maysB th t n
def fillOk (t : Tm) (th : List Tm) (n : Int) : Bool := mayB t && !decide (n < 0) && !decide (n > 1000) && !decide ((th.length : Int) > 200) && maysB th
def fillW (r : Tm × Int) : Tm × Int := if r.2 = 0 then (if mayB r.1 then (r.1, 0) else (zT, 4)) else (zT, r.2)
def FillR (t : Tm) (th : List Tm) (n : Int) : Tm × Int := if fillOk t th n then fillW (fillM th t n) else (zT, 1)
def eachR (F : Nat → Tm × Int) (k : Nat) : List Tm × Int := if firstE F k = 0 then (outs (fun i => (F i).1) k, 0) else ([], firstE F k)
def CtxR (l th : List Tm) (n : Int) : List Tm × Int := eachR (fun i => FillR (l.getD i default) th (n + i)) l.length
theorem fillOk_parts {t : Tm} {th : List Tm} {n : Int} (h : fillOk t th n = true) : mayB t = true ∧ 0 ≤ n ∧ n ≤ 1000 ∧ th.length ≤ 200 ∧ ∀ x ∈ th, mayB x = true := by
  simp only [fillOk, Bool.and_eq_true, Bool.not_eq_true', decide_eq_false_iff_not] at h
  exact ⟨h.1.1.1.1, by have := h.1.1.1.2; omega, by have := h.1.1.2; omega, by have := h.1.2; omega, maysB_iff.1 h.2⟩
theorem fillOk_of {t : Tm} {th : List Tm} {n : Int} (h1 : mayB t = true) (h2 : 0 ≤ n) (h3 : n ≤ 1000) (h4 : th.length ≤ 200) (h5 : ∀ x ∈ th, mayB x = true) : fillOk t th n = true := by
  simp only [fillOk, Bool.and_eq_true, Bool.not_eq_true', decide_eq_false_iff_not]
  exact ⟨⟨⟨⟨h1, by omega⟩, by omega⟩, by omega⟩, maysB_iff.2 h5⟩
theorem fillW_ok {r : Tm × Int} (h : (fillW r).2 = 0) : r.2 = 0 ∧ mayB r.1 = true ∧ fillW r = r := by
  unfold fillW at h ⊢
  by_cases h0 : r.2 = 0
  · rw [if_pos h0] at h ⊢
    by_cases hm : mayB r.1 = true
    · exact ⟨h0, hm, by rw [if_pos hm]; exact Prod.ext rfl h0.symm⟩
    · rw [if_neg hm] at h; cases h
  · rw [if_neg h0] at h; exact absurd h h0
theorem fillR_ok {t : Tm} {th : List Tm} {n : Int} (h : (FillR t th n).2 = 0) : fillOk t th n = true ∧ (fillM th t n).2 = 0 ∧ mayB (fillM th t n).1 = true ∧ FillR t th n = fillM th t n := by
  unfold FillR at h ⊢
  by_cases ho : fillOk t th n = true
  · rw [if_pos ho] at h ⊢
    exact ⟨ho, fillW_ok h⟩
  · rw [if_neg ho] at h; cases h
theorem fillR_may (t : Tm) (th : List Tm) (n : Int) : mayB (FillR t th n).1 = true := by
  unfold FillR fillW
  split
  · split
    · split
      · assumption
      · exact zT_may
    · exact zT_may
  · exact zT_may
theorem fillR_none {t : Tm} {th : List Tm} {n : Int} (h : fillOk t th n = true) (hm : metasB t = false) : FillR t th n = (t, 0) := by
  unfold FillR fillW
  rw [if_pos h, fillM, fill_none t n hm]
  simp [(fillOk_parts h).1]
theorem eachR_ok {F : Nat → Tm × Int} {k : Nat} (h : (eachR F k).2 = 0) : (∀ i, i < k → (F i).2 = 0) ∧ eachR F k = (outs (fun i => (F i).1) k, 0) := by
  unfold eachR at h ⊢
  by_cases h0 : firstE F k = 0
  · rw [if_pos h0]; exact ⟨(firstE_zero _ _).1 h0, rfl⟩
  · rw [if_neg h0] at h; exact absurd h h0
theorem eachR_all {F : Nat → Tm × Int} {k : Nat} (h : ∀ i, i < k → (F i).2 = 0) : eachR F k = (outs (fun i => (F i).1) k, 0) := by
  unfold eachR
  rw [if_pos ((firstE_zero _ _).2 h)]
/-! ### whole -/
/-! ### bare metas -/
end Go.Proofs.Ytkmpfdecjmnccaa
/- The package meta. -/
set_option linter.unusedSimpArgs false
set_option linter.unusedVariables false
set_option maxRecDepth 100000
namespace Go.Proofs.Ytkmpfdecjmnccaa
open Go.Proofs
theorem zT_size : zT.size = 1 := by unfold zT; rw [mk_size]; rfl
theorem fill_fits {th : List Tm} {K : Int} (h0 : 0 ≤ K) (hth : ∀ x ∈ th, vleB K x = true) : ∀ (t : Tm) (n : Int), nodesB t = true → vleB K t = true → vleB (K + 2000000 * t.depth) (fillM th t n).1 = true ∧ (fillM th t n).1.size ≤ 4000 * t.size := by
  refine Tm.ind fun t ih n hn hv => ?_
  have hts := size_eq t
  rw [fillM, fillT_eq]
  by_cases he : firstE (fillF applyR maysB th t n) t.args.length = 0
  · rw [if_pos he]
    have hA : ∀ x ∈ (List.range t.args.length).map (fun i => (fillF applyR maysB th t n i).1), vleB (K + 2000000 * (t.depth - 1 : Nat)) x = true := fun x hx => by
      simp only [List.mem_map, List.mem_range] at hx
      obtain ⟨i, hi, rfl⟩ := hx
      have hd := depth_arg (arg_mem hi)
      exact vle_mono (by omega) (ih _ (arg_mem hi) (n + bnd t i) (node_args hn i hi) (vle_args hv i hi)).1
    unfold fillN
    by_cases k6 : t.kind = 6
    · rw [if_neg (by simpa using k6)]
      have hd1 : 1 ≤ t.depth := by rw [depth_eq]; omega
      split
      · exact ⟨vle_mono (show (0 : Int) ≤ _ by omega) (zT_vle 0), by show zT.size ≤ _; have := zT_size; omega⟩
      · split
        · have hh := node_head (node_here hn)
          have hlt : t.head.toNat < th.length := by omega
          have hmem : th.getD t.head.toNat default ∈ th := by rw [List.getD_eq_getElem?_getD, List.getElem?_eq_getElem hlt]; exact List.getElem_mem _
          refine ⟨vle_mono (by omega) (applyR_vle (K := K + 2000000 * (t.depth - 1 : Nat)) (by omega) (vle_mono (by omega) (hth _ hmem)) hA), ?_⟩
          have := (may_parts (applyR_may (th.getD t.head.toNat default) ⟨(List.range t.args.length).map fun i => (fillF applyR maysB th t n i).1, n⟩)).2.1
          omega
        · exact ⟨vle_mono (show (0 : Int) ≤ _ by omega) (zT_vle 0), by show zT.size ≤ _; have := zT_size; omega⟩
    · rw [if_pos k6]
      refine ⟨vle_mk (fun k4 => ?_) fun x hx => vle_mono (by omega) (hA x hx), ?_⟩
      · have := vle_here hv k4; omega
      · rw [mk_size, hts]
        have key : ∀ l : List Nat, (∀ i ∈ l, i < t.args.length) → (((l.map fun i => (fillF applyR maysB th t n i).1)).map Tm.size).sum ≤ 4000 * ((l.map fun i => t.arg i).map Tm.size).sum := by
          intro l
          induction l with
          | nil => intro _; simp
          | cons i l ih2 =>
            intro hl
            have h1 := ih2 fun j hj => hl j (by simp [hj])
            have hi := hl i (by simp)
            have h2 : (fillF applyR maysB th t n i).1.size ≤ 4000 * (t.arg i).size := (ih _ (arg_mem hi) (n + bnd t i) (node_args hn i hi) (vle_args hv i hi)).2
            simp only [List.map_cons, List.sum_cons]
            omega
        have := key (List.range t.args.length) fun i hi => by simpa using hi
        rw [args_range] at this
        omega
  · rw [if_neg he]
    exact ⟨vle_mono (show (0 : Int) ≤ _ by omega) (zT_vle 0), by show zT.size ≤ _; have := zT_size; omega⟩
def DoesE (g : Nat) (caps : List AV) (h : List HO) (l : List Tm) (F : Nat → Tm × Int) : Prop :=
  ∀ i, i < l.length → (∀ j, j < i → (F j).2 = 0) → ∀ (locs : List (Option (List AV))) (toks : List (Option Nat)), mCall C (lim C) g (dI i :: dT (l.getD i default) :: caps) { locs := locs, heap := h, toks := toks } = some (.v (.tup [dT (F i).1, dI (F i).2]), { locs := locs, heap := h, toks := toks })
abbrev fsts (F : Nat → Tm × Int) (i : Nat) : Tm := (F i).1
def meach_S (l : List Tm) (g : Nat) (caps : List AV) (h : List HO) (F : Nat → Tm × Int) (i : Nat) : St := mk 34 [(1, .fn g [] caps), (6, acc 0 (encs (outs (fsts F) i))), (11, dL l), (12, dI l.length), (13, dI i)] [] h (accT i)
theorem meach_step {l : List Tm} {g : Nat} {caps : List AV} {h : List HO} {F : Nat → Tm × Int} (hd : DoesE g caps h l F) (hl : l.length < room) {i : Nat} (hi : i < l.length) (hp : ∀ j, j ≤ i → (F j).2 = 0) :
    (lim C).code 42 (cf (.loop (cf (cf (cs (cf (cs (cs (bodyOf Try.f42))))))))) (meach_S l g caps h F i) = some (.nor, meach_S l g caps h F (i + 1)) := by
  have hr : room = 1099511627776 := rfl
  have hc := hd i hi fun j hj => hp j (by omega)
  rw [hp i (Nat.le_refl i)] at hc
  have hln : (encs (outs (fsts F) i)).length = i := by simp [encs, outs]
  have hap := fun locs heap => mApp_acc (encs (outs (fsts F) i)) (enc (F i).1) 3 locs heap (by rw [hln]; omega) (encs_all _) (enc_width _)
  have hsn : encs (outs (fsts F) i) ++ [enc (F i).1] = encs (outs (fsts F) (i + 1)) := by unfold outs; rw [List.range_succ, List.map_append, encs_append]; rfl
  rw [hln, hsn] at hap
  have hce := cells_enc (F i).1
  have hee := (enc_eq (F i).1).symm
  simp -implicitDefEqProofs (disch := decide +kernel) only [cf, cs, bodyOf, Try.f42, Option.getD_some, go_sem, ↓reduceIte, Nat.reduceSub, Nat.reduceAdd, Nat.reduceMul, Nat.reduceBEq, Nat.reduceLT, Nat.reduceLeDiff, Nat.reduceEqDiff, reduceCtorEq, Int.reduceToNat, Int.reduceLE, Int.reduceLT, Int.reduceBEq, Int.reduceBNe, meach_S, lt_true hi, getD_get hi, hc, hap, hce, cel3, hee, wrap_succ (n := i) (by omega)]
theorem meach_spec {l : List Tm} {g : Nat} {caps : List AV} {h : List HO} {F : Nat → Tm × Int} (hd : DoesE g caps h l F) (hl : l.length < room) (hc1 : okL caps = true) (hc2 : eraseL caps = caps) :
    (lim C).call 42 [dL l, .fn g [] caps] h = some (.ret (.tup [dL (eachR F l.length).1, dI (eachR F l.length).2]), h) := by
  have hr : room = 1099511627776 := rfl
  rw [ev_fn 42 Try.f42 _ _ _ rfl Try.func42 rfl Try.ntmps42 rfl]
  simp -implicitDefEqProofs (disch := decide +kernel) only [go_sem, ↓reduceIte, Nat.reduceSub, Nat.reduceAdd, Nat.reduceMul, Nat.reduceBEq, Nat.reduceLT, Nat.reduceLeDiff, Nat.reduceEqDiff, reduceCtorEq, Int.reduceToNat, Int.reduceLE, Int.reduceLT, Int.reduceBEq, Int.reduceBNe, hc1, hc2]
  by_cases he : firstE F l.length = 0
  · have hz := (firstE_zero _ _).1 he
    have hloop : (lim C).code 42 (.loop (cf (cf (cs (cf (cs (cs (bodyOf Try.f42)))))))) (meach_S l g caps h F 0) = some (.exit 0, mk 34 [(1, .fn g [] caps), (6, acc 0 (encs (outs (fsts F) l.length))), (11, dL l), (12, dI l.length), (13, dI l.length), (14, dB false)] [] h (accT l.length)) := by
      refine loop_run (meach_S l g caps h F) l.length (fun i hi => meach_step hd hl hi fun j hj => hz j (by omega)) ?_ (by simp)
      simp -implicitDefEqProofs (disch := decide +kernel) only [cf, cs, bodyOf, Try.f42, Option.getD_some, go_sem, ↓reduceIte, Nat.reduceSub, Nat.reduceAdd, Nat.reduceMul, Nat.reduceBEq, Nat.reduceLT, Nat.reduceLeDiff, Nat.reduceEqDiff, reduceCtorEq, Int.reduceToNat, Int.reduceLE, Int.reduceLT, Int.reduceBEq, Int.reduceBNe, meach_S, lt_false (Nat.le_refl l.length)]
    rw [loop_at hloop ?hb ?hs]
    case hb => rfl
    case hs => rfl
    have ha : (acc 0 (encs (outs (fsts F) l.length))).erase = .d (.slc (encs (outs (fsts F) l.length))) := by cases encs (outs (fsts F) l.length) <;> rfl
    have hres : eachR F l.length = (outs (fsts F) l.length, 0) := eachR_all hz
    simp -implicitDefEqProofs (disch := decide +kernel) only [go_sem, ↓reduceIte, Nat.reduceSub, Nat.reduceAdd, Nat.reduceMul, Nat.reduceBEq, Nat.reduceLT, Nat.reduceLeDiff, Nat.reduceEqDiff, reduceCtorEq, Int.reduceToNat, Int.reduceLE, Int.reduceLT, Int.reduceBEq, Int.reduceBNe, ha, hres]
  · obtain ⟨j, hj, hp, hb⟩ := firstE_at _ _ he
    have hne : ((F j).2 != 0) = true := by rw [hp]; simpa using he
    have hloop : (lim C).code 42 (.loop (cf (cf (cs (cf (cs (cs (bodyOf Try.f42)))))))) (meach_S l g caps h F 0) = some (.ret, mk 34 [(4, .clip []), (5, dI (F j).2)] [] h (accT j)) := by
      refine loop_run (meach_S l g caps h F) j (fun i hi => meach_step hd hl (by omega) fun k hk => hb k (by omega)) ?_ (by simp)
      have hc := hd j hj hb
      simp -implicitDefEqProofs (disch := decide +kernel) only [cf, cs, bodyOf, Try.f42, Option.getD_some, go_sem, ↓reduceIte, Nat.reduceSub, Nat.reduceAdd, Nat.reduceMul, Nat.reduceBEq, Nat.reduceLT, Nat.reduceLeDiff, Nat.reduceEqDiff, reduceCtorEq, Int.reduceToNat, Int.reduceLE, Int.reduceLT, Int.reduceBEq, Int.reduceBNe, meach_S, lt_true hj, getD_get hj, hc, hne, cells_enc, cel3]
    rw [loop_at hloop ?hb ?hs]
    case hb => rfl
    case hs => rfl
    have hres : eachR F l.length = ([], (F j).2) := by unfold eachR; rw [if_neg he, hp]
    simp -implicitDefEqProofs (disch := decide +kernel) only [go_sem, ↓reduceIte, Nat.reduceSub, Nat.reduceAdd, Nat.reduceMul, Nat.reduceBEq, Nat.reduceLT, Nat.reduceLeDiff, Nat.reduceEqDiff, reduceCtorEq, Int.reduceToNat, Int.reduceLE, Int.reduceLT, Int.reduceBEq, Int.reduceBNe, hres]
    simp [encs]
theorem modd_spec (t : Tm) (hs : t.size < room) : (lim C).call 44 [dT t] [] = retB (!mayB t) := by
  rw [ev_fn 44 Try.f44 _ _ _ rfl Try.func44 rfl Try.ntmps44 rfl]
  simp -implicitDefEqProofs (disch := decide +kernel) only [go_sem, ↓reduceIte, Nat.reduceSub, Nat.reduceAdd, Nat.reduceMul, Nat.reduceBEq, Nat.reduceLT, Nat.reduceLeDiff, Nat.reduceEqDiff, reduceCtorEq, Int.reduceToNat, Int.reduceLE, Int.reduceLT, Int.reduceBEq, Int.reduceBNe, mCall, tMay_spec t hs, cells_enc, cel3, (enc_eq t).symm]
def fil_H (t : Tm) (th : List Tm) (n : Int) (b : Bool) : List HO := [.var 0 (cel3 t), .var 0 [dL th], .var 0 [dI n], .var 0 [dB b]]
theorem fil1_spec {t : Tm} {th : List Tm} {n : Int} {i : Nat} {x u : Tm} {e : Int} {h : List HO} (hi : i < t.args.length) (hn : 0 ≤ n ∧ n + t.size < 4000000000000000000) (hs : t.size < room)
    (hrec : (lim C).call 46 [dT x, dL th, dI (n + bnd t i)] [] = some (.ret (.tup [dT u, dI e]), h)) :
    (lim C).call 69 [dI i, dT x, .href 3 0, .href 0 0, .href 1 0, .href 2 0] (fil_H t th n (bindsB t)) = some (.ret (.tup [dT u, dI e]), fil_H t th n (bindsB t)) := by
  have hr : room = 1099511627776 := rfl
  have hl := len_size t
  have hw1 : IntKind.wrap .i64 ((t.args.length : Int) - 1) = (t.args.length : Int) - 1 := wrap_ok (by omega) (by omega)
  have hw2 : IntKind.wrap .i64 (n + 1) = n + 1 := wrap_ok (by omega) (by omega)
  have hex := (enc_eq x).symm
  have heu := (enc_eq u).symm
  rw [ev_fn 69 Try.f69 _ _ _ rfl Try.func69 rfl Try.ntmps69 rfl]
  cases hb : bindsB t
  · rw [bindsB_no hb, Int.natCast_zero, Int.add_zero] at hrec
    simp -implicitDefEqProofs (disch := decide +kernel) only [go_sem, ↓reduceIte, Nat.reduceSub, Nat.reduceAdd, Nat.reduceMul, Nat.reduceBEq, Nat.reduceLT, Nat.reduceLeDiff, Nat.reduceEqDiff, reduceCtorEq, Int.reduceToNat, Int.reduceLE, Int.reduceLT, Int.reduceBEq, Int.reduceBNe, mCall, fil_H, cel3, cells_enc, hex, heu, hrec]
  · cases he : ((i : Int) == (t.args.length : Int) - 1)
    · rw [bindsB_not he, Int.natCast_zero, Int.add_zero] at hrec
      simp -implicitDefEqProofs (disch := decide +kernel) only [go_sem, ↓reduceIte, Nat.reduceSub, Nat.reduceAdd, Nat.reduceMul, Nat.reduceBEq, Nat.reduceLT, Nat.reduceLeDiff, Nat.reduceEqDiff, reduceCtorEq, Int.reduceToNat, Int.reduceLE, Int.reduceLT, Int.reduceBEq, Int.reduceBNe, mCall, fil_H, cel3, cells_enc, hex, heu, hw1, he, hrec]
    · rw [bindsB_bnd hb he] at hrec
      have hrec : _ = _ := hrec
      rw [Int.natCast_one] at hrec
      simp -implicitDefEqProofs (disch := decide +kernel) only [go_sem, ↓reduceIte, Nat.reduceSub, Nat.reduceAdd, Nat.reduceMul, Nat.reduceBEq, Nat.reduceLT, Nat.reduceLeDiff, Nat.reduceEqDiff, reduceCtorEq, Int.reduceToNat, Int.reduceLE, Int.reduceLT, Int.reduceBEq, Int.reduceBNe, mCall, fil_H, cel3, cells_enc, hex, heu, hw1, hw2, he, hrec]
theorem zT'_eq : zT' = zT := rfl
theorem fill_spec {th : List Tm} {K : Int} (h0 : 0 ≤ K) (hth : ∀ x ∈ th, mayB x = true ∧ vleB K x = true) (hlt : th.length < room) : ∀ t : Tm, t.size ≤ 1048576 → nodesB t = true → vleB K t = true → K + 2000000 * t.depth ≤ topV → ∀ n : Int, 0 ≤ n → n + t.size < 4000000000000000000 →
    ∃ h, (lim C).call 46 [dT t, dL th, dI n] [] = some (.ret (.tup [dT (fillM th t n).1, dI (fillM th t n).2]), h) := by
  refine Tm.ind fun t ih hs hn hv hk n h1 h2 => ?_
  have hr : room = 1099511627776 := rfl
  have hl := len_size t
  have hdo : DoesE 69 [.href 3 0, .href 0 0, .href 1 0, .href 2 0] (fil_H t th n (bindsB t)) t.args (fillF applyR maysB th t n) := by
    intro i hi _ locs toks
    have hsz := size_arg (arg_mem hi)
    have hbl := bnd_le t i
    have hd := depth_arg (arg_mem hi)
    obtain ⟨h, hrec⟩ := ih _ (arg_mem hi) (by omega) (node_args hn i hi) (vle_args hv i hi) (by omega) (n + bnd t i) (by omega) (by omega)
    have h1 := fil1_spec hi ⟨by omega, by omega⟩ (by omega) hrec
    have h1 : (lim C).call 69 [dI i, dT (t.arg i), .href 3 0, .href 0 0, .href 1 0, .href 2 0] (fil_H t th n (bindsB t)) = some (.ret (.tup [dT (fillF applyR maysB th t n i).1, dI (fillF applyR maysB th t n i).2]), fil_H t th n (bindsB t)) := h1
    simp only [mCall, callsPure, pureL, AV.pure, okL, AV.okA, C_thr, eraseL, AV.erase, Bool.and_true, Bool.true_and, Bool.and_false, Bool.false_and, Bool.false_eq_true, if_false, if_true, Option.bind_some, heapRes_ret, show t.args.getD i default = t.arg i from rfl, h1]
  have hea := meach_spec hdo (by omega) rfl rfl
  have hfit : ∀ x ∈ outs (fsts (fillF applyR maysB th t n)) t.args.length, x.size < room ∧ vleB topV x = true := fun x hx => by
    simp only [outs, List.mem_map, List.mem_range] at hx
    obtain ⟨i, hi, rfl⟩ := hx
    have hsz := size_arg (arg_mem hi)
    have hd := depth_arg (arg_mem hi)
    have hf := fill_fits h0 (fun x hx => (hth x hx).2) (t.arg i) (n + bnd t i) (node_args hn i hi) (vle_args hv i hi)
    exact ⟨by have := hf.2; show (fillM th (t.arg i) (n + bnd t i)).1.size < room; omega, vle_mono (by omega) hf.1⟩
  have hsz := fun x hx => (hfit x hx).1
  have hvl := fun x hx => (hfit x hx).2
  have hal : (outs (fsts (fillF applyR maysB th t n)) t.args.length).length = t.args.length := by simp [outs]
  have hct := contains_spec (g := 44) (by decide +kernel) (l := outs (fsts (fillF applyR maysB th t n)) t.args.length) (by rw [hal]; omega) (fun x hx => ⟨_, modd_spec x (hsz x hx)⟩)
  have hee := (enc_eq t).symm
  refine ⟨fil_H t th n (bindsB t), ?_⟩
  rw [fillM, fillT_eq]
  rw [show ((List.range t.args.length).map fun i => (fillF applyR maysB th t n i).1) = outs (fsts (fillF applyR maysB th t n)) t.args.length from rfl]
  have hall : eachR (fillF applyR maysB th t n) t.args.length = if firstE (fillF applyR maysB th t n) t.args.length = 0 then (outs (fsts (fillF applyR maysB th t n)) t.args.length, 0) else ([], firstE (fillF applyR maysB th t n) t.args.length) := rfl
  generalize fillF applyR maysB th t n = FF at hea hct hsz hvl hal hall ⊢
  rw [hall] at hea
  generalize outs (fsts FF) t.args.length = ls at hea hct hsz hvl hal hall ⊢
  simp only [fil_H, cel3] at hea
  rw [ev_fn 46 Try.f46 _ _ _ rfl Try.func46 rfl Try.ntmps46 rfl]
  cases k1 : (t.kind == 1)
  · have hb : bindsB t = (t.kind == 3) := by simp [bindsB, k1]
    rw [hb] at hea ⊢
    by_cases he : ¬ firstE FF t.args.length = 0
    · -- what is not filled
      have hne : (firstE FF t.args.length != 0) = true := by simpa using he
      rw [if_neg he]
      rw [if_neg he] at hea
      simp -implicitDefEqProofs (disch := decide +kernel) only [go_sem, ↓reduceIte, Nat.reduceSub, Nat.reduceAdd, Nat.reduceMul, Nat.reduceBEq, Nat.reduceLT, Nat.reduceLeDiff, Nat.reduceEqDiff, reduceCtorEq, Int.reduceToNat, Int.reduceLE, Int.reduceLT, Int.reduceBEq, Int.reduceBNe, mCall, k1, fil_H, cel3, cells_enc, hee, hea, hne, zT_enc, zT'_eq]
    · have he : firstE FF t.args.length = 0 := Classical.not_not.1 he
      rw [if_pos he]
      rw [if_pos he] at hea
      unfold fillN
      cases k6 : (t.kind != 6)
      · have k6' : t.kind = 6 := by simpa using k6
        have hh := node_head (node_here hn)
        rw [if_neg (by simpa using k6')]
        cases hge : decide (t.head ≥ th.length)
        · have hge' : ¬ t.head ≥ th.length := by simpa using hge
          rw [if_neg hge']
          have hlt2 : t.head.toNat < th.length := by omega
          cases hma : maysB ls
          · rw [hma] at hct
            rw [if_neg (by simp)]
            simp -implicitDefEqProofs (disch := decide +kernel) only [go_sem, ↓reduceIte, Nat.reduceSub, Nat.reduceAdd, Nat.reduceMul, Nat.reduceBEq, Nat.reduceLT, Nat.reduceLeDiff, Nat.reduceEqDiff, reduceCtorEq, Int.reduceToNat, Int.reduceLE, Int.reduceLT, Int.reduceBEq, Int.reduceBNe, mCall, k1, fil_H, cel3, cells_enc, hee, hea, k6, hge, hct, zT_enc, zT'_eq]
          · rw [hma] at hct
            rw [if_pos rfl]
            have hmem : th.getD t.head.toNat default ∈ th := by rw [List.getD_eq_getElem?_getD, List.getElem?_eq_getElem hlt2]; exact List.getElem_mem _
            obtain ⟨h', hap⟩ := sapply_spec (th.getD t.head.toNat default) ⟨ls, n⟩ (by have := (may_parts (hth _ hmem).1).2.1; omega) hsz (by rw [hal]; omega) (vle_mono (by omega) (hth _ hmem).2) hvl
            have hes := encS_mk ls n
            have hgt := getD_get hlt2
            have hhn : 0 ≤ t.head := hh
            generalize applyR (th.getD t.head.toNat default) ⟨ls, n⟩ = rr at hap ⊢
            simp -implicitDefEqProofs (disch := decide +kernel) only [go_sem, ↓reduceIte, Nat.reduceSub, Nat.reduceAdd, Nat.reduceMul, Nat.reduceBEq, Nat.reduceLT, Nat.reduceLeDiff, Nat.reduceEqDiff, reduceCtorEq, Int.reduceToNat, Int.reduceLE, Int.reduceLT, Int.reduceBEq, Int.reduceBNe, mCall, k1, fil_H, cel3, cells_enc, hee, hea, k6, hge, hct, hgt, hhn, hes, hap, (enc_eq rr.1).symm]
        · rw [if_pos (by simpa using hge)]
          simp -implicitDefEqProofs (disch := decide +kernel) only [go_sem, ↓reduceIte, Nat.reduceSub, Nat.reduceAdd, Nat.reduceMul, Nat.reduceBEq, Nat.reduceLT, Nat.reduceLeDiff, Nat.reduceEqDiff, reduceCtorEq, Int.reduceToNat, Int.reduceLE, Int.reduceLT, Int.reduceBEq, Int.reduceBNe, mCall, k1, fil_H, cel3, cells_enc, hee, hea, k6, hge, zT_enc, zT'_eq]
      · rw [if_pos (by simpa using k6)]
        simp -implicitDefEqProofs (disch := decide +kernel) only [go_sem, ↓reduceIte, Nat.reduceSub, Nat.reduceAdd, Nat.reduceMul, Nat.reduceBEq, Nat.reduceLT, Nat.reduceLeDiff, Nat.reduceEqDiff, reduceCtorEq, Int.reduceToNat, Int.reduceLE, Int.reduceLT, Int.reduceBEq, Int.reduceBNe, mCall, k1, fil_H, cel3, cells_enc, hee, hea, k6, tm_enc]
        rfl
  · have hb : bindsB t = true := by simp [bindsB, k1]
    rw [hb] at hea ⊢
    by_cases he : ¬ firstE FF t.args.length = 0
    · -- what is not filled
      have hne : (firstE FF t.args.length != 0) = true := by simpa using he
      rw [if_neg he]
      rw [if_neg he] at hea
      simp -implicitDefEqProofs (disch := decide +kernel) only [go_sem, ↓reduceIte, Nat.reduceSub, Nat.reduceAdd, Nat.reduceMul, Nat.reduceBEq, Nat.reduceLT, Nat.reduceLeDiff, Nat.reduceEqDiff, reduceCtorEq, Int.reduceToNat, Int.reduceLE, Int.reduceLT, Int.reduceBEq, Int.reduceBNe, mCall, k1, fil_H, cel3, cells_enc, hee, hea, hne, zT_enc, zT'_eq]
    · have he : firstE FF t.args.length = 0 := Classical.not_not.1 he
      rw [if_pos he]
      rw [if_pos he] at hea
      unfold fillN
      cases k6 : (t.kind != 6)
      · have k6' : t.kind = 6 := by simpa using k6
        have hh := node_head (node_here hn)
        rw [if_neg (by simpa using k6')]
        cases hge : decide (t.head ≥ th.length)
        · have hge' : ¬ t.head ≥ th.length := by simpa using hge
          rw [if_neg hge']
          have hlt2 : t.head.toNat < th.length := by omega
          cases hma : maysB ls
          · rw [hma] at hct
            rw [if_neg (by simp)]
            simp -implicitDefEqProofs (disch := decide +kernel) only [go_sem, ↓reduceIte, Nat.reduceSub, Nat.reduceAdd, Nat.reduceMul, Nat.reduceBEq, Nat.reduceLT, Nat.reduceLeDiff, Nat.reduceEqDiff, reduceCtorEq, Int.reduceToNat, Int.reduceLE, Int.reduceLT, Int.reduceBEq, Int.reduceBNe, mCall, k1, fil_H, cel3, cells_enc, hee, hea, k6, hge, hct, zT_enc, zT'_eq]
          · rw [hma] at hct
            rw [if_pos rfl]
            have hmem : th.getD t.head.toNat default ∈ th := by rw [List.getD_eq_getElem?_getD, List.getElem?_eq_getElem hlt2]; exact List.getElem_mem _
            obtain ⟨h', hap⟩ := sapply_spec (th.getD t.head.toNat default) ⟨ls, n⟩ (by have := (may_parts (hth _ hmem).1).2.1; omega) hsz (by rw [hal]; omega) (vle_mono (by omega) (hth _ hmem).2) hvl
            have hes := encS_mk ls n
            have hgt := getD_get hlt2
            have hhn : 0 ≤ t.head := hh
            generalize applyR (th.getD t.head.toNat default) ⟨ls, n⟩ = rr at hap ⊢
            simp -implicitDefEqProofs (disch := decide +kernel) only [go_sem, ↓reduceIte, Nat.reduceSub, Nat.reduceAdd, Nat.reduceMul, Nat.reduceBEq, Nat.reduceLT, Nat.reduceLeDiff, Nat.reduceEqDiff, reduceCtorEq, Int.reduceToNat, Int.reduceLE, Int.reduceLT, Int.reduceBEq, Int.reduceBNe, mCall, k1, fil_H, cel3, cells_enc, hee, hea, k6, hge, hct, hgt, hhn, hes, hap, (enc_eq rr.1).symm]
        · rw [if_pos (by simpa using hge)]
          simp -implicitDefEqProofs (disch := decide +kernel) only [go_sem, ↓reduceIte, Nat.reduceSub, Nat.reduceAdd, Nat.reduceMul, Nat.reduceBEq, Nat.reduceLT, Nat.reduceLeDiff, Nat.reduceEqDiff, reduceCtorEq, Int.reduceToNat, Int.reduceLE, Int.reduceLT, Int.reduceBEq, Int.reduceBNe, mCall, k1, fil_H, cel3, cells_enc, hee, hea, k6, hge, zT_enc, zT'_eq]
      · rw [if_pos (by simpa using k6)]
        simp -implicitDefEqProofs (disch := decide +kernel) only [go_sem, ↓reduceIte, Nat.reduceSub, Nat.reduceAdd, Nat.reduceMul, Nat.reduceBEq, Nat.reduceLT, Nat.reduceLeDiff, Nat.reduceEqDiff, reduceCtorEq, Int.reduceToNat, Int.reduceLE, Int.reduceLT, Int.reduceBEq, Int.reduceBNe, mCall, k1, fil_H, cel3, cells_enc, hee, hea, k6, tm_enc]
        rfl
end Go.Proofs.Ytkmpfdecjmnccaa
/- Arguments of a law: lists of numbers, as they are read. -/
set_option linter.unusedVariables false
set_option linter.unusedSimpArgs false
namespace Go.Proofs.Ytkmpfdecjmnccaa
open Go.Proofs Go.ChangeShapes
def encI (n : Int) : Dv := .int .i64 n
def encIs (l : List Int) : List Dv := l.map encI
section
variable {H : Type} {enc' : TypeId × Value → H} {W : World} {held : Bool}
end
end Go.Proofs.Ytkmpfdecjmnccaa
/- The package meta: Fill, Ctx, All. -/
set_option linter.unusedSimpArgs false
set_option linter.unusedVariables false
set_option maxRecDepth 100000
namespace Go.Proofs.Ytkmpfdecjmnccaa
open Go.Proofs
structure ThOk (K : Int) (th : List Tm) : Prop where
  h0 : 0 ≤ K
  top : K + 200000000 ≤ topV
  len : th.length < room
  all : ∀ x ∈ th, x.size < room ∧ vleB K x = true
theorem fill_top {th : List Tm} {K : Int} (h : ThOk K th) {t : Tm} {n : Int} (hs : t.size ≤ 1048576) (hv : vleB K t = true) (ho : fillOk t th n = true) :
    ∃ h, (lim C).call 46 [dT t, dL th, dI n] [] = some (.ret (.tup [dT (fillM th t n).1, dI (fillM th t n).2]), h) := by
  obtain ⟨p1, p2, p3, p4, p5⟩ := fillOk_parts ho
  have hp := may_parts p1
  have := h.top
  exact fill_spec h.h0 (fun x hx => ⟨p5 x hx, (h.all x hx).2⟩) h.len t hs hp.1 hv (by omega) n p2 (by omega)
theorem fillM_size {th : List Tm} {K : Int} (h : ThOk K th) {t : Tm} {n : Int} (hs : t.size ≤ 1048576) (hv : vleB K t = true) (hm : mayB t = true) : (fillM th t n).1.size < room := by
  have hr : room = 1099511627776 := rfl
  have := (fill_fits h.h0 (fun x hx => (h.all x hx).2) t n (may_parts hm).1 hv).2
  omega
theorem mFill_spec {th : List Tm} {K : Int} (h : ThOk K th) (t : Tm) (hs : t.size ≤ 1048576) (hv : vleB K t = true) (n : Int) :
    ∃ h, (lim C).call 19 [dT t, dL th, dI n] [] = some (.ret (.tup [dT (FillR t th n).1, dI (FillR t th n).2]), h) := by
  have hr : room = 1099511627776 := rfl
  have hc := contains_spec (g := 44) (by decide +kernel) (l := th) h.len (fun x hx => ⟨_, modd_spec x (h.all x hx).1⟩)
  have ho := modd_spec t (by omega)
  have hee := (enc_eq t).symm
  have hsz := fun hm => fillM_size h (n := n) hs hv hm
  have htop := fill_top h (n := n) hs hv
  refine ⟨[], ?_⟩
  unfold FillR fillOk
  unfold fillOk at htop
  rw [ev_fn 19 Try.f19 _ _ _ rfl Try.func19 rfl Try.ntmps19 rfl]
  cases h1 : mayB t
  · simp -implicitDefEqProofs (disch := decide +kernel) only [go_sem, ↓reduceIte, Nat.reduceSub, Nat.reduceAdd, Nat.reduceMul, Nat.reduceBEq, Nat.reduceLT, Nat.reduceLeDiff, Nat.reduceEqDiff, reduceCtorEq, Int.reduceToNat, Int.reduceLE, Int.reduceLT, Int.reduceBEq, Int.reduceBNe, mCall, cells_enc, cel3, hee, ho, hc, zT_enc, h1]
  · skip
    cases h2 : decide (n < 0)
    rotate_left
    · simp -implicitDefEqProofs (disch := decide +kernel) only [go_sem, ↓reduceIte, Nat.reduceSub, Nat.reduceAdd, Nat.reduceMul, Nat.reduceBEq, Nat.reduceLT, Nat.reduceLeDiff, Nat.reduceEqDiff, reduceCtorEq, Int.reduceToNat, Int.reduceLE, Int.reduceLT, Int.reduceBEq, Int.reduceBNe, mCall, cells_enc, cel3, hee, ho, hc, zT_enc, h1, h2]
    cases h3 : decide (n > 1000)
    rotate_left
    · simp -implicitDefEqProofs (disch := decide +kernel) only [go_sem, ↓reduceIte, Nat.reduceSub, Nat.reduceAdd, Nat.reduceMul, Nat.reduceBEq, Nat.reduceLT, Nat.reduceLeDiff, Nat.reduceEqDiff, reduceCtorEq, Int.reduceToNat, Int.reduceLE, Int.reduceLT, Int.reduceBEq, Int.reduceBNe, mCall, cells_enc, cel3, hee, ho, hc, zT_enc, h1, h2, h3]
    cases h4 : decide ((th.length : Int) > 200)
    rotate_left
    · simp -implicitDefEqProofs (disch := decide +kernel) only [go_sem, ↓reduceIte, Nat.reduceSub, Nat.reduceAdd, Nat.reduceMul, Nat.reduceBEq, Nat.reduceLT, Nat.reduceLeDiff, Nat.reduceEqDiff, reduceCtorEq, Int.reduceToNat, Int.reduceLE, Int.reduceLT, Int.reduceBEq, Int.reduceBNe, mCall, cells_enc, cel3, hee, ho, hc, zT_enc, h1, h2, h3, h4]
    cases h5 : maysB th
    · simp -implicitDefEqProofs (disch := decide +kernel) only [go_sem, ↓reduceIte, Nat.reduceSub, Nat.reduceAdd, Nat.reduceMul, Nat.reduceBEq, Nat.reduceLT, Nat.reduceLeDiff, Nat.reduceEqDiff, reduceCtorEq, Int.reduceToNat, Int.reduceLE, Int.reduceLT, Int.reduceBEq, Int.reduceBNe, mCall, cells_enc, cel3, hee, ho, hc, zT_enc, h1, h2, h3, h4, h5]
    · skip
      rw [h1, h2, h3, h4, h5] at htop
      obtain ⟨h', hf⟩ := htop rfl
      have hsz := hsz h1
      unfold fillW
      generalize fillM th t n = rr at hf hsz ⊢
      cases h6 : (rr.2 != 0)
      · have h6' : rr.2 = 0 := by simpa using h6
        have ho2 := modd_spec rr.1 hsz
        rw [if_pos h6']
        cases h7 : mayB rr.1
        · rw [h7] at ho2
          simp -implicitDefEqProofs (disch := decide +kernel) only [go_sem, ↓reduceIte, Nat.reduceSub, Nat.reduceAdd, Nat.reduceMul, Nat.reduceBEq, Nat.reduceLT, Nat.reduceLeDiff, Nat.reduceEqDiff, reduceCtorEq, Int.reduceToNat, Int.reduceLE, Int.reduceLT, Int.reduceBEq, Int.reduceBNe, mCall, cells_enc, cel3, hee, ho, hc, h1, h2, h3, h4, h5, hf, h6, ho2, (enc_eq rr.1).symm, zT_enc]
        · rw [h7] at ho2
          simp -implicitDefEqProofs (disch := decide +kernel) only [go_sem, ↓reduceIte, Nat.reduceSub, Nat.reduceAdd, Nat.reduceMul, Nat.reduceBEq, Nat.reduceLT, Nat.reduceLeDiff, Nat.reduceEqDiff, reduceCtorEq, Int.reduceToNat, Int.reduceLE, Int.reduceLT, Int.reduceBEq, Int.reduceBNe, mCall, cells_enc, cel3, hee, ho, hc, h1, h2, h3, h4, h5, hf, h6, ho2, (enc_eq rr.1).symm, zT_enc]
      · have h6' : ¬ rr.2 = 0 := by simpa using h6
        rw [if_neg h6']
        simp -implicitDefEqProofs (disch := decide +kernel) only [go_sem, ↓reduceIte, Nat.reduceSub, Nat.reduceAdd, Nat.reduceMul, Nat.reduceBEq, Nat.reduceLT, Nat.reduceLeDiff, Nat.reduceEqDiff, reduceCtorEq, Int.reduceToNat, Int.reduceLE, Int.reduceLT, Int.reduceBEq, Int.reduceBNe, mCall, cells_enc, cel3, hee, ho, hc, h1, h2, h3, h4, h5, hf, h6, (enc_eq rr.1).symm, zT_enc]
theorem fillR_size (t : Tm) (th : List Tm) (n : Int) : (FillR t th n).1.size ≤ 4000 := (may_parts (fillR_may t th n)).2.1
theorem ctx1_spec {th : List Tm} {n : Int} {i : Nat} {x u : Tm} {e : Int} {h : List HO} (hn : in64 n) (hi : IntKind.wrap .i64 (n + i) = n + i)
    (hrec : (lim C).call 19 [dT x, dL th, dI (n + i)] [] = some (.ret (.tup [dT u, dI e]), h)) :
    (lim C).call 43 [dI i, dT x, .href 0 0, .href 1 0] [.var 0 [dL th], .var 0 [dI n]] = some (.ret (.tup [dT u, dI e]), [.var 0 [dL th], .var 0 [dI n]]) := by
  rw [ev_fn 43 Try.f43 _ _ _ rfl Try.func43 rfl Try.ntmps43 rfl]
  simp -implicitDefEqProofs (disch := decide +kernel) only [go_sem, ↓reduceIte, Nat.reduceSub, Nat.reduceAdd, Nat.reduceMul, Nat.reduceBEq, Nat.reduceLT, Nat.reduceLeDiff, Nat.reduceEqDiff, reduceCtorEq, Int.reduceToNat, Int.reduceLE, Int.reduceLT, Int.reduceBEq, Int.reduceBNe, mCall, cells_enc, cel3, (enc_eq x).symm, (enc_eq u).symm, hi, hrec]
structure LOk (K : Int) (l : List Tm) : Prop where
  len : l.length < 1048576
  all : ∀ x ∈ l, x.size ≤ 1048576 ∧ vleB K x = true
theorem LOk.at {K : Int} {l : List Tm} (h : LOk K l) {i : Nat} (hi : i < l.length) : (l.getD i default).size ≤ 1048576 ∧ vleB K (l.getD i default) = true := h.all _ (getD_mem hi)
theorem ctx_wrap {th l : List Tm} {n : Int} (hn : in64 n) (hl : l.length < 1048576) {i : Nat} (hi : i < l.length) (h : ∀ j, j < i → (FillR (l.getD j default) th (n + j)).2 = 0) : IntKind.wrap .i64 (n + (i : Int)) = n + i := by
  unfold in64 at hn
  rcases Nat.eq_zero_or_pos i with h0 | h0
  · obtain rfl := h0
    exact wrap_ok (by omega) (by omega)
  · have := (fillOk_parts (fillR_ok (h 0 h0)).1).2.2.1
    have : n + ((0 : Nat) : Int) ≤ 1000 := this
    exact wrap_ok (by omega) (by omega)
theorem mCtx_spec {th : List Tm} {K : Int} (h : ThOk K th) (l : List Tm) (hl : LOk K l) (n : Int) (hn : in64 n) :
    ∃ h, (lim C).call 18 [dL l, dL th, dI n] [] = some (.ret (.tup [dL (CtxR l th n).1, dI (CtxR l th n).2]), h) := by
  have hr : room = 1099511627776 := rfl
  have hll := hl.len
  have hdo : DoesE 43 [.href 0 0, .href 1 0] [.var 0 [dL th], .var 0 [dI n]] l (fun i => FillR (l.getD i default) th (n + i)) := by
    intro i hi hprev locs toks
    obtain ⟨h', hrec⟩ := mFill_spec h (l.getD i default) (hl.at hi).1 (hl.at hi).2 (n + i)
    have h1 := ctx1_spec hn (ctx_wrap hn hll hi hprev) hrec
    simp only [mCall, callsPure, pureL, AV.pure, okL, AV.okA, C_thr, eraseL, AV.erase, Bool.and_true, Bool.true_and, Bool.and_false, Bool.false_and, Bool.false_eq_true, if_false, if_true, Option.bind_some, heapRes_ret, h1]
  have hea := meach_spec hdo (by omega) rfl rfl
  refine ⟨[.var 0 [dL th], .var 0 [dI n]], ?_⟩
  unfold CtxR
  generalize eachR (fun i => FillR (l.getD i default) th (n + i)) l.length = rr at hea ⊢
  rw [ev_fn 18 Try.f18 _ _ _ rfl Try.func18 rfl Try.ntmps18 rfl]
  simp -implicitDefEqProofs (disch := decide +kernel) only [go_sem, ↓reduceIte, Nat.reduceSub, Nat.reduceAdd, Nat.reduceMul, Nat.reduceBEq, Nat.reduceLT, Nat.reduceLeDiff, Nat.reduceEqDiff, reduceCtorEq, Int.reduceToNat, Int.reduceLE, Int.reduceLT, Int.reduceBEq, Int.reduceBNe, mCall, hea]
theorem encIs_len (ns : List Int) : (encIs ns).length = ns.length := by simp [encIs]
end Go.Proofs.Ytkmpfdecjmnccaa
/- The package metas: ahead, decl, variable, Sizes, Params. -/
set_option linter.unusedSimpArgs false
set_option linter.unusedVariables false
set_option maxRecDepth 100000
namespace Go.Proofs.Ytkmpfdecjmnccaa
open Go.Proofs
def YieldsA (y : Nat) (H E : Nat → List HO) (pre : Nat → List Dv) (X : List Dv) (W : Nat → Int) : Prop :=
  ∀ i x, X[i]? = some x → (∀ j, j < i → W j = 0) → ∀ (locs : List (Option (List AV))) (toks : List (Option Nat)),
    mYld (lim C) y [.clip (pre i), .d x] { locs := locs, heap := H i, toks := toks } = some (if W i = 0 then (.v (dB true), { locs := locs, heap := H (i + 1), toks := toks }) else (.v (dB false), { locs := locs, heap := E i, toks := toks }))
theorem fst_cases' (W : Nat → Int) : ∀ k i, (∀ j, i ≤ j → j < i + k → W j = 0) ∨ ∃ j, i ≤ j ∧ j < i + k ∧ W j ≠ 0 ∧ (∀ l, i ≤ l → l < j → W l = 0)
  | 0, i => .inl fun j h1 h2 => by omega
  | k + 1, i => by
    by_cases h : W i = 0
    · rcases fst_cases' W k (i + 1) with h1 | ⟨j, h1, h2, h3, h4⟩
      · refine .inl fun j a b => ?_
        rcases Nat.eq_or_lt_of_le a with rfl | a
        · exact h
        · exact h1 j a (by omega)
      · refine .inr ⟨j, by omega, by omega, h3, fun l a b => ?_⟩
        rcases Nat.eq_or_lt_of_le a with rfl | a
        · exact h
        · exact h4 l a b
    · exact .inr ⟨i, Nat.le_refl i, by omega, h, fun l a b => by omega⟩
theorem ahT_spec (l : List Tm) (h : List HO) : (lim C).call 40 [.d (.slc (encs l))] h = some (.ret (.fn 67 [] [.href h.length 0]), h ++ [.var 0 [.d (.slc (encs l))]]) := by
  rw [ev_fn 40 Try.f40 _ _ _ rfl Try.func40 rfl Try.ntmps40 rfl]
  simp -implicitDefEqProofs (disch := decide +kernel) only [go_sem, ↓reduceIte, Nat.reduceSub, Nat.reduceAdd, Nat.reduceMul, Nat.reduceBEq, Nat.reduceLT, Nat.reduceLeDiff, Nat.reduceEqDiff, reduceCtorEq, Int.reduceToNat, Int.reduceLE, Int.reduceLT, Int.reduceBEq, Int.reduceBNe, mCall]
def ahT_S (l : List Tm) (y j : Nat) (H : Nat → List HO) (i : Nat) : St := mk 21 [(0, .yld y), (1, .href j 0), (5, .d (.slc (encs l))), (6, dI l.length), (7, dI i)] [] (H i) []
theorem ahT1_spec {y j : Nat} {H E : Nat → List HO} {l : List Tm} {W : Nat → Int} (hy : YieldsA y H E (fun i => (encs l).take i) (encs l) W) (hl : l.length < room) (hj : ∀ i, (H i)[j]? = some (.var 0 [.d (.slc (encs l))])) :
    ∃ hh, (lim C).call 67 [.yld y, .href j 0] (H 0) = some (.ret (.tup []), hh) ∧ ((∀ i, i < l.length → W i = 0) ∧ hh = H l.length ∨ ∃ i, i < l.length ∧ W i ≠ 0 ∧ (∀ k, k < i → W k = 0) ∧ hh = E i) := by
  have hr : room = 1099511627776 := rfl
  have hstep : ∀ i, i < l.length → (∀ k, k < i → W k = 0) → W i = 0 → (lim C).code 67 (cf (.loop (cf (cf (cs (bodyOf Try.f67)))))) (ahT_S l y j H i) = some (.nor, ahT_S l y j H (i + 1)) := fun i hi hp hw => by
    have hc := hy i _ (by rw [encs_get, getD_get hi]; rfl) hp
    simp only [hw, if_true] at hc
    have hle : i ≤ l.length := by omega
    have hji := hj i
    simp -implicitDefEqProofs (disch := decide +kernel) only [cf, cs, bodyOf, Try.f67, Option.getD_some, go_sem, ↓reduceIte, Nat.reduceSub, Nat.reduceAdd, Nat.reduceMul, Nat.reduceBEq, Nat.reduceLT, Nat.reduceLeDiff, Nat.reduceEqDiff, reduceCtorEq, Int.reduceToNat, Int.reduceLE, Int.reduceLT, Int.reduceBEq, Int.reduceBNe, mCall, ahT_S, lt_true hi, getD_get hi, hji, hc, hle, Nat.zero_le, cells_enc, cel3, encs_all, wrap_succ (n := i) (by omega)]
  by_cases hall : ∀ i, i < l.length → W i = 0
  · refine ⟨H l.length, ?_, .inl ⟨hall, rfl⟩⟩
    have hj0 := hj 0
    have hloop : (lim C).code 67 (.loop (cf (cf (cs (bodyOf Try.f67))))) (ahT_S l y j H 0) = some (.exit 0, mk 21 [(0, .yld y), (1, .href j 0), (5, .d (.slc (encs l))), (6, dI l.length), (7, dI l.length), (8, dB false)] [] (H l.length) []) := by
      refine loop_run (ahT_S l y j H) l.length (fun i hi => hstep i hi (fun k hk => hall k (by omega)) (hall i hi)) ?_ (by simp)
      simp -implicitDefEqProofs (disch := decide +kernel) only [cf, cs, bodyOf, Try.f67, Option.getD_some, go_sem, ↓reduceIte, Nat.reduceSub, Nat.reduceAdd, Nat.reduceMul, Nat.reduceBEq, Nat.reduceLT, Nat.reduceLeDiff, Nat.reduceEqDiff, reduceCtorEq, Int.reduceToNat, Int.reduceLE, Int.reduceLT, Int.reduceBEq, Int.reduceBNe, mCall, ahT_S, lt_false (Nat.le_refl l.length)]
    rw [ev_fn 67 Try.f67 _ _ _ rfl Try.func67 rfl Try.ntmps67 rfl]
    simp -implicitDefEqProofs (disch := decide +kernel) only [go_sem, ↓reduceIte, Nat.reduceSub, Nat.reduceAdd, Nat.reduceMul, Nat.reduceBEq, Nat.reduceLT, Nat.reduceLeDiff, Nat.reduceEqDiff, reduceCtorEq, Int.reduceToNat, Int.reduceLE, Int.reduceLT, Int.reduceBEq, Int.reduceBNe, mCall, hj0]
    rw [loop_at hloop ?hb ?hs]
    case hb => rfl
    case hs => rfl
    simp -implicitDefEqProofs (disch := decide +kernel) only [go_sem, ↓reduceIte, Nat.reduceSub, Nat.reduceAdd, Nat.reduceMul, Nat.reduceBEq, Nat.reduceLT, Nat.reduceLeDiff, Nat.reduceEqDiff, reduceCtorEq, Int.reduceToNat, Int.reduceLE, Int.reduceLT, Int.reduceBEq, Int.reduceBNe, mCall]
  · obtain ⟨i, hi, hne, hp⟩ : ∃ i, i < l.length ∧ W i ≠ 0 ∧ ∀ k, k < i → W k = 0 := by
      rcases fst_cases' W l.length 0 with h | ⟨i, h1, h2, h3, h4⟩
      · exact absurd (fun i hi => h i (Nat.zero_le i) (by omega)) hall
      · exact ⟨i, by omega, h3, fun k hk => h4 k (Nat.zero_le k) hk⟩
    refine ⟨E i, ?_, .inr ⟨i, hi, hne, hp, rfl⟩⟩
    have hj0 := hj 0
    have hji := hj i
    have hc := hy i _ (by rw [encs_get, getD_get hi]; rfl) hp
    simp only [hne, if_false] at hc
    have hle : i ≤ l.length := by omega
    have hloop : (lim C).code 67 (.loop (cf (cf (cs (bodyOf Try.f67))))) (ahT_S l y j H 0) = some (.ret, mk 21 [(0, .yld y), (1, .href j 0), (5, .d (.slc (encs l))), (6, dI l.length), (7, dI i), (19, dB true)] [] (E i) []) := by
      refine loop_run (ahT_S l y j H) i (fun k hk => hstep k (by omega) (fun q hq => hp q (by omega)) (hp k hk)) ?_ (by simp)
      simp -implicitDefEqProofs (disch := decide +kernel) only [cf, cs, bodyOf, Try.f67, Option.getD_some, go_sem, ↓reduceIte, Nat.reduceSub, Nat.reduceAdd, Nat.reduceMul, Nat.reduceBEq, Nat.reduceLT, Nat.reduceLeDiff, Nat.reduceEqDiff, reduceCtorEq, Int.reduceToNat, Int.reduceLE, Int.reduceLT, Int.reduceBEq, Int.reduceBNe, mCall, ahT_S, lt_true hi, getD_get hi, hji, hc, hle, Nat.zero_le, cells_enc, cel3, encs_all]
    rw [ev_fn 67 Try.f67 _ _ _ rfl Try.func67 rfl Try.ntmps67 rfl]
    simp -implicitDefEqProofs (disch := decide +kernel) only [go_sem, ↓reduceIte, Nat.reduceSub, Nat.reduceAdd, Nat.reduceMul, Nat.reduceBEq, Nat.reduceLT, Nat.reduceLeDiff, Nat.reduceEqDiff, reduceCtorEq, Int.reduceToNat, Int.reduceLE, Int.reduceLT, Int.reduceBEq, Int.reduceBNe, mCall, hj0]
    rw [loop_at hloop ?hb ?hs]
    case hb => rfl
    case hs => rfl
    simp -implicitDefEqProofs (disch := decide +kernel) only [go_sem, ↓reduceIte, Nat.reduceSub, Nat.reduceAdd, Nat.reduceMul, Nat.reduceBEq, Nat.reduceLT, Nat.reduceLeDiff, Nat.reduceEqDiff, reduceCtorEq, Int.reduceToNat, Int.reduceLE, Int.reduceLT, Int.reduceBEq, Int.reduceBNe, mCall]
theorem ahM_spec (l : List Md) (h : List HO) : (lim C).call 32 [.d (.slc (encMs l))] h = some (.ret (.fn 50 [] [.href h.length 0]), h ++ [.var 0 [.d (.slc (encMs l))]]) := by
  rw [ev_fn 32 Try.f32 _ _ _ rfl Try.func32 rfl Try.ntmps32 rfl]
  simp -implicitDefEqProofs (disch := decide +kernel) only [go_sem, ↓reduceIte, Nat.reduceSub, Nat.reduceAdd, Nat.reduceMul, Nat.reduceBEq, Nat.reduceLT, Nat.reduceLeDiff, Nat.reduceEqDiff, reduceCtorEq, Int.reduceToNat, Int.reduceLE, Int.reduceLT, Int.reduceBEq, Int.reduceBNe, mCall]
def ahM_S (l : List Md) (y j : Nat) (H : Nat → List HO) (i : Nat) : St := mk 21 [(0, .yld y), (1, .href j 0), (5, .d (.slc (encMs l))), (6, dI l.length), (7, dI i)] [] (H i) []
theorem ahM1_spec {y j : Nat} {H E : Nat → List HO} {l : List Md} {W : Nat → Int} (hy : YieldsA y H E (fun i => (encMs l).take i) (encMs l) W) (hl : l.length < room) (hj : ∀ i, (H i)[j]? = some (.var 0 [.d (.slc (encMs l))])) :
    ∃ hh, (lim C).call 50 [.yld y, .href j 0] (H 0) = some (.ret (.tup []), hh) ∧ ((∀ i, i < l.length → W i = 0) ∧ hh = H l.length ∨ ∃ i, i < l.length ∧ W i ≠ 0 ∧ (∀ k, k < i → W k = 0) ∧ hh = E i) := by
  have hr : room = 1099511627776 := rfl
  have hstep : ∀ i, i < l.length → (∀ k, k < i → W k = 0) → W i = 0 → (lim C).code 50 (cf (.loop (cf (cf (cs (bodyOf Try.f50)))))) (ahM_S l y j H i) = some (.nor, ahM_S l y j H (i + 1)) := fun i hi hp hw => by
    have hc := hy i _ (by rw [encMs_get, mget_get hi]; rfl) hp
    simp only [hw, if_true] at hc
    have hle : i ≤ l.length := by omega
    have hji := hj i
    simp -implicitDefEqProofs (disch := decide +kernel) only [cf, cs, bodyOf, Try.f50, Option.getD_some, go_sem, ↓reduceIte, Nat.reduceSub, Nat.reduceAdd, Nat.reduceMul, Nat.reduceBEq, Nat.reduceLT, Nat.reduceLeDiff, Nat.reduceEqDiff, reduceCtorEq, Int.reduceToNat, Int.reduceLE, Int.reduceLT, Int.reduceBEq, Int.reduceBNe, mCall, ahM_S, lt_true hi, mget_get hi, hji, hc, hle, Nat.zero_le, cells_encM, encMs_all, wrap_succ (n := i) (by omega)]
  by_cases hall : ∀ i, i < l.length → W i = 0
  · refine ⟨H l.length, ?_, .inl ⟨hall, rfl⟩⟩
    have hj0 := hj 0
    have hloop : (lim C).code 50 (.loop (cf (cf (cs (bodyOf Try.f50))))) (ahM_S l y j H 0) = some (.exit 0, mk 21 [(0, .yld y), (1, .href j 0), (5, .d (.slc (encMs l))), (6, dI l.length), (7, dI l.length), (8, dB false)] [] (H l.length) []) := by
      refine loop_run (ahM_S l y j H) l.length (fun i hi => hstep i hi (fun k hk => hall k (by omega)) (hall i hi)) ?_ (by simp)
      simp -implicitDefEqProofs (disch := decide +kernel) only [cf, cs, bodyOf, Try.f50, Option.getD_some, go_sem, ↓reduceIte, Nat.reduceSub, Nat.reduceAdd, Nat.reduceMul, Nat.reduceBEq, Nat.reduceLT, Nat.reduceLeDiff, Nat.reduceEqDiff, reduceCtorEq, Int.reduceToNat, Int.reduceLE, Int.reduceLT, Int.reduceBEq, Int.reduceBNe, mCall, ahM_S, lt_false (Nat.le_refl l.length)]
    rw [ev_fn 50 Try.f50 _ _ _ rfl Try.func50 rfl Try.ntmps50 rfl]
    simp -implicitDefEqProofs (disch := decide +kernel) only [go_sem, ↓reduceIte, Nat.reduceSub, Nat.reduceAdd, Nat.reduceMul, Nat.reduceBEq, Nat.reduceLT, Nat.reduceLeDiff, Nat.reduceEqDiff, reduceCtorEq, Int.reduceToNat, Int.reduceLE, Int.reduceLT, Int.reduceBEq, Int.reduceBNe, mCall, hj0]
    rw [loop_at hloop ?hb ?hs]
    case hb => rfl
    case hs => rfl
    simp -implicitDefEqProofs (disch := decide +kernel) only [go_sem, ↓reduceIte, Nat.reduceSub, Nat.reduceAdd, Nat.reduceMul, Nat.reduceBEq, Nat.reduceLT, Nat.reduceLeDiff, Nat.reduceEqDiff, reduceCtorEq, Int.reduceToNat, Int.reduceLE, Int.reduceLT, Int.reduceBEq, Int.reduceBNe, mCall]
  · obtain ⟨i, hi, hne, hp⟩ : ∃ i, i < l.length ∧ W i ≠ 0 ∧ ∀ k, k < i → W k = 0 := by
      rcases fst_cases' W l.length 0 with h | ⟨i, h1, h2, h3, h4⟩
      · exact absurd (fun i hi => h i (Nat.zero_le i) (by omega)) hall
      · exact ⟨i, by omega, h3, fun k hk => h4 k (Nat.zero_le k) hk⟩
    refine ⟨E i, ?_, .inr ⟨i, hi, hne, hp, rfl⟩⟩
    have hj0 := hj 0
    have hji := hj i
    have hc := hy i _ (by rw [encMs_get, mget_get hi]; rfl) hp
    simp only [hne, if_false] at hc
    have hle : i ≤ l.length := by omega
    have hloop : (lim C).code 50 (.loop (cf (cf (cs (bodyOf Try.f50))))) (ahM_S l y j H 0) = some (.ret, mk 21 [(0, .yld y), (1, .href j 0), (5, .d (.slc (encMs l))), (6, dI l.length), (7, dI i), (19, dB true)] [] (E i) []) := by
      refine loop_run (ahM_S l y j H) i (fun k hk => hstep k (by omega) (fun q hq => hp q (by omega)) (hp k hk)) ?_ (by simp)
      simp -implicitDefEqProofs (disch := decide +kernel) only [cf, cs, bodyOf, Try.f50, Option.getD_some, go_sem, ↓reduceIte, Nat.reduceSub, Nat.reduceAdd, Nat.reduceMul, Nat.reduceBEq, Nat.reduceLT, Nat.reduceLeDiff, Nat.reduceEqDiff, reduceCtorEq, Int.reduceToNat, Int.reduceLE, Int.reduceLT, Int.reduceBEq, Int.reduceBNe, mCall, ahM_S, lt_true hi, mget_get hi, hji, hc, hle, Nat.zero_le, cells_encM, encMs_all]
    rw [ev_fn 50 Try.f50 _ _ _ rfl Try.func50 rfl Try.ntmps50 rfl]
    simp -implicitDefEqProofs (disch := decide +kernel) only [go_sem, ↓reduceIte, Nat.reduceSub, Nat.reduceAdd, Nat.reduceMul, Nat.reduceBEq, Nat.reduceLT, Nat.reduceLeDiff, Nat.reduceEqDiff, reduceCtorEq, Int.reduceToNat, Int.reduceLE, Int.reduceLT, Int.reduceBEq, Int.reduceBNe, mCall, hj0]
    rw [loop_at hloop ?hb ?hs]
    case hb => rfl
    case hs => rfl
    simp -implicitDefEqProofs (disch := decide +kernel) only [go_sem, ↓reduceIte, Nat.reduceSub, Nat.reduceAdd, Nat.reduceMul, Nat.reduceBEq, Nat.reduceLT, Nat.reduceLeDiff, Nat.reduceEqDiff, reduceCtorEq, Int.reduceToNat, Int.reduceLE, Int.reduceLT, Int.reduceBEq, Int.reduceBNe, mCall]
theorem first_ok' {W : Nat → Int} {n : Nat} (h : (firstR W n).2 = 0) : n ≤ 40 ∧ ∀ j, j < n → W j = 0 := by
  unfold firstR at h
  by_cases hn : (n : Int) > 40
  · rw [if_pos hn] at h; cases h
  rw [if_neg hn] at h
  refine ⟨by omega, ?_⟩
  have key : ∀ k i, (fstR W k i).2 = 0 → ∀ j, i ≤ j → j < i + k → W j = 0 := by
    intro k
    induction k with
    | zero => intro i _ j h1 h2; omega
    | succ k ih =>
      intro i h j h1 h2
      simp only [fstR] at h
      by_cases he : W i = 0
      · rw [if_neg (by simpa using he)] at h
        rcases Nat.eq_or_lt_of_le h1 with rfl | h1
        · exact he
        · exact ih (i + 1) h j h1 (by omega)
      · rw [if_pos he] at h; exact absurd h he
  exact fun j hj => key n 0 h j (Nat.zero_le j) (by omega)
def declMW (w : Wd) (d : Md) : Int := if CtxWR w [] d.ctx ≠ 0 then CtxWR w [] d.ctx else if (d.t.kind != 2 || d.param && decide ((d.ctx.length : Int) > 0)) = true then 1 else TypR w d.ctx d.t
theorem mdecl_spec {K : Int} {sg : List Dc} {ms : List Md} (hin : WIn K ⟨sg, ms, []⟩) (d : Md) (hz : d.t.size < room) (hcl : d.ctx.length < room) (hcz : ∀ x ∈ d.ctx, x.size < room) :
    ∃ h, (lim C).call 33 [dDs sg, dMs ms, dM d] [] = some (.ret (dI (declMW (Wo.wd ⟨sg, ms, []⟩) d)), h) := by
  have hr : room = 1099511627776 := rfl
  obtain ⟨h1, c1⟩ := wCtx_spec hin d.ctx hcz (by show 0 + _ < room; omega)
  have c1 : (lim C).call 14 [dDs sg, dMs ms, .d (.slc []), dL d.ctx] [] = some (.ret (dI (CtxWR (Wo.wd ⟨sg, ms, []⟩) [] d.ctx)), h1) := c1
  have hen := encM_fold d
  have het := (enc_eq d.t).symm
  refine ⟨[], ?_⟩
  unfold declMW
  rw [ev_fn 33 Try.f33 _ _ _ rfl Try.func33 rfl Try.ntmps33 rfl]
  by_cases h0 : CtxWR (Wo.wd ⟨sg, ms, []⟩) [] d.ctx = 0
  · rw [if_neg (by simpa using h0)]
    rw [h0] at c1
    have h00 : ((0 : Int) != 0) = false := rfl
    have hctx : WIn K ⟨sg, ms, d.ctx⟩ := by
      refine hin.cons (fun x hx => ⟨hcz x hx, ?_⟩) hcl
      obtain ⟨_, ha⟩ := first_ok' h0
      obtain ⟨i, hi, rfl⟩ := List.mem_iff_getElem.1 hx
      have := ha i hi
      unfold ctxW at this
      rw [List.getD_eq_getElem?_getD, List.getElem?_eq_getElem hi] at this
      exact vle_mono hin.hk (typ0_vle this).2
    obtain ⟨h2, c2⟩ := cType_spec hctx d.t hz
    have c2 : (lim C).call 15 [dDs sg, dMs ms, dL d.ctx, dT d.t] [] = some (.ret (dI (TypR (Wo.wd ⟨sg, ms, []⟩) d.ctx d.t)), h2) := c2
    cases k1 : (d.t.kind != 2)
    · cases k2 : d.param
      · rw [if_neg (by simp)]
        simp -implicitDefEqProofs (disch := decide +kernel) only [go_sem, ↓reduceIte, Nat.reduceSub, Nat.reduceAdd, Nat.reduceMul, Nat.reduceBEq, Nat.reduceLT, Nat.reduceLeDiff, Nat.reduceEqDiff, reduceCtorEq, Int.reduceToNat, Int.reduceLE, Int.reduceLT, Int.reduceBEq, Int.reduceBNe, mCall, cells_encM, c1, c2, h00, k1, k2, het]
      · cases k3 : decide ((d.ctx.length : Int) > 0)
        · rw [if_neg (by simp)]
          simp -implicitDefEqProofs (disch := decide +kernel) only [go_sem, ↓reduceIte, Nat.reduceSub, Nat.reduceAdd, Nat.reduceMul, Nat.reduceBEq, Nat.reduceLT, Nat.reduceLeDiff, Nat.reduceEqDiff, reduceCtorEq, Int.reduceToNat, Int.reduceLE, Int.reduceLT, Int.reduceBEq, Int.reduceBNe, mCall, cells_encM, c1, c2, h00, k1, k2, k3, het]
        · rw [if_pos (by simp)]
          simp -implicitDefEqProofs (disch := decide +kernel) only [go_sem, ↓reduceIte, Nat.reduceSub, Nat.reduceAdd, Nat.reduceMul, Nat.reduceBEq, Nat.reduceLT, Nat.reduceLeDiff, Nat.reduceEqDiff, reduceCtorEq, Int.reduceToNat, Int.reduceLE, Int.reduceLT, Int.reduceBEq, Int.reduceBNe, mCall, cells_encM, c1, c2, h00, k1, k2, k3, het]
    · rw [if_pos (by simp)]
      simp -implicitDefEqProofs (disch := decide +kernel) only [go_sem, ↓reduceIte, Nat.reduceSub, Nat.reduceAdd, Nat.reduceMul, Nat.reduceBEq, Nat.reduceLT, Nat.reduceLeDiff, Nat.reduceEqDiff, reduceCtorEq, Int.reduceToNat, Int.reduceLE, Int.reduceLT, Int.reduceBEq, Int.reduceBNe, mCall, cells_encM, c1, c2, h00, k1, het]
  · have h0' : (CtxWR (Wo.wd ⟨sg, ms, []⟩) [] d.ctx != 0) = true := by simpa using h0
    rw [if_pos h0]
    simp -implicitDefEqProofs (disch := decide +kernel) only [go_sem, ↓reduceIte, Nat.reduceSub, Nat.reduceAdd, Nat.reduceMul, Nat.reduceBEq, Nat.reduceLT, Nat.reduceLeDiff, Nat.reduceEqDiff, reduceCtorEq, Int.reduceToNat, Int.reduceLE, Int.reduceLT, Int.reduceBEq, Int.reduceBNe, mCall, cells_encM, c1, h0']
def varB (t : Tm) (ms : List Md) : Bool := if t.kind = 6 then decide (t.head < ms.length) && (ms.getD t.head.toNat default).param else t.kind == 4 && decide ((t.args.length : Int) = 0)
theorem mvar_spec (t : Tm) (ms : List Md) (h0 : 0 ≤ t.head) : (lim C).call 41 [dT t, dMs ms] [] = retB (varB t ms) := by
  unfold varB
  rw [ev_fn 41 Try.f41 _ _ _ rfl Try.func41 rfl Try.ntmps41 rfl]
  by_cases k : t.kind = 6
  · rw [if_pos k]
    cases h1 : decide (t.head < (ms.length : Int))
    · simp -implicitDefEqProofs (disch := decide +kernel) only [go_sem, ↓reduceIte, Nat.reduceSub, Nat.reduceAdd, Nat.reduceMul, Nat.reduceBEq, Nat.reduceLT, Nat.reduceLeDiff, Nat.reduceEqDiff, reduceCtorEq, Int.reduceToNat, Int.reduceLE, Int.reduceLT, Int.reduceBEq, Int.reduceBNe, mCall, cells_enc, cel3, k, h1]
    · have hlt : t.head.toNat < ms.length := by simp at h1; omega
      have hg := mget_get hlt
      simp -implicitDefEqProofs (disch := decide +kernel) only [go_sem, ↓reduceIte, Nat.reduceSub, Nat.reduceAdd, Nat.reduceMul, Nat.reduceBEq, Nat.reduceLT, Nat.reduceLeDiff, Nat.reduceEqDiff, reduceCtorEq, Int.reduceToNat, Int.reduceLE, Int.reduceLT, Int.reduceBEq, Int.reduceBNe, mCall, cells_enc, cel3, k, h1, hg, h0, cells_encM]
  · rw [if_neg k]
    have k' : (t.kind == 6) = false := by simpa using k
    cases k4 : (t.kind == 4)
    · simp -implicitDefEqProofs (disch := decide +kernel) only [go_sem, ↓reduceIte, Nat.reduceSub, Nat.reduceAdd, Nat.reduceMul, Nat.reduceBEq, Nat.reduceLT, Nat.reduceLeDiff, Nat.reduceEqDiff, reduceCtorEq, Int.reduceToNat, Int.reduceLE, Int.reduceLT, Int.reduceBEq, Int.reduceBNe, mCall, cells_enc, cel3, k', k4]
    · have h2 : ((t.args.length : Int) == 0) = decide ((t.args.length : Int) = 0) := rfl
      simp -implicitDefEqProofs (disch := decide +kernel) only [go_sem, ↓reduceIte, Nat.reduceSub, Nat.reduceAdd, Nat.reduceMul, Nat.reduceBEq, Nat.reduceLT, Nat.reduceLeDiff, Nat.reduceEqDiff, reduceCtorEq, Int.reduceToNat, Int.reduceLE, Int.reduceLT, Int.reduceBEq, Int.reduceBNe, mCall, cells_enc, cel3, k', k4, h2]
end Go.Proofs.Ytkmpfdecjmnccaa
/- The package metas: Decls, Sizes, Params. -/
set_option linter.unusedSimpArgs false
set_option linter.unusedVariables false
set_option maxRecDepth 100000
namespace Go.Proofs.Ytkmpfdecjmnccaa
open Go.Proofs
def declsW (sg : List Dc) (ms : List Md) (i : Nat) : Int := declMW (Wo.wd ⟨sg, ms.take i, []⟩) (ms.getD i default)
def DeclsR (sg : List Dc) (ms : List Md) : Int × Int := firstR (declsW sg ms) ms.length
theorem WIn.takeM {K : Int} {sg : List Dc} {ms : List Md} {c : List Tm} (h : WIn K ⟨sg, ms, c⟩) (i : Nat) : WIn K ⟨sg, ms.take i, c⟩ := by
  have h1 := h.sz.ml
  have h1 : ms.length < room := h1
  exact ⟨⟨h.sz.cl, h.sz.cz, h.sz.sl, h.sz.sz, by simp; omega, fun d hd => h.sz.mz d (List.mem_of_mem_take hd)⟩, h.hk, h.top, h.ctx, h.sig, fun d hd => h.metas d (List.mem_of_mem_take hd)⟩
theorem fstR_hit {W : Nat → Int} {i : Nat} (hp : ∀ k, k < i → W k = 0) (hw : W i ≠ 0) : ∀ k j, j ≤ i → i < j + k → fstR W k j = ((i : Int), W i)
  | 0, j, h1, h2 => by omega
  | k + 1, j, h1, h2 => by
    unfold fstR
    rcases Nat.eq_or_lt_of_le h1 with rfl | h1
    · rw [if_pos hw]
    · rw [if_neg (by simpa using hp j h1)]
      exact fstR_hit hp hw k (j + 1) h1 (by omega)
theorem fstR_miss {W : Nat → Int} : ∀ k j, (∀ i, j ≤ i → i < j + k → W i = 0) → fstR W k j = (0, 0)
  | 0, j, h => rfl
  | k + 1, j, h => by
    unfold fstR
    rw [if_neg (by simpa using h j (Nat.le_refl j) (by omega))]
    exact fstR_miss k (j + 1) fun i h1 h2 => h i (by omega) (by omega)
noncomputable def decls_L : LoopA := { fn := 13, tmps := tl 25 [(2, .href 0 0), (4, .href 1 0), (5, .href 2 0), (13, .fn 50 [] [.href 3 0])], params := [14, 15], assign := cf (cf (cs (cf (cs (cs (bodyOf Try.f13)))))), body := cs (cf (cs (cf (cs (cs (bodyOf Try.f13)))))) }
noncomputable def decls_H (sg : List Dc) (ms : List Md) (i e : Int) (o : HO) : List HO := [.var 0 [dDs sg], .var 0 [dI i], .var 0 [dI e], .var 0 [dMs ms], o]
theorem decls_yields {K : Int} {sg : List Dc} {ms : List Md} (hin : WIn K ⟨sg, ms, []⟩) :
    YieldsA 4 (fun _ => decls_H sg ms 0 0 (.loop .ready none decls_L)) (fun i => decls_H sg ms i (declsW sg ms i) (.loop .done (some .ret) decls_L)) (fun i => (encMs ms).take i) (encMs ms) (declsW sg ms) := by
  have hr : room = 1099511627776 := rfl
  intro i x hx hp locs toks
  rw [encMs_get] at hx
  obtain ⟨d, hdd, rfl⟩ := Option.map_eq_some_iff.1 hx
  obtain ⟨hlt, hat⟩ := getD_of_get hdd
  obtain ⟨z1, z2, z3⟩ := hin.sz.mz d (List.mem_of_getElem? hdd)
  obtain ⟨h1, c1⟩ := mdecl_spec (hin.takeM i) d z1 z2 z3
  have c1 : (lim C).call 33 [dDs sg, .d (.slc (encMs (ms.take i))), dM d] [] = some (.ret (dI (declsW sg ms i)), h1) := by
    unfold declsW; rw [hat]; exact c1
  rw [encMs_take] at c1
  have hlen : min i ms.length = i := by omega
  by_cases hw : declsW sg ms i = 0
  · rw [if_pos hw]
    rw [hw] at c1
    simp -implicitDefEqProofs (disch := decide +kernel) only [cf, cs, bodyOf, Try.f13, Option.getD_some, go_sem, ↓reduceIte, Nat.reduceSub, Nat.reduceAdd, Nat.reduceMul, Nat.reduceBEq, Nat.reduceLT, Nat.reduceLeDiff, Nat.reduceEqDiff, reduceCtorEq, Int.reduceToNat, Int.reduceLE, Int.reduceLT, Int.reduceBEq, Int.reduceBNe, mCall, decls_H, decls_L, mYld_K, c1, hlen, cells_encM, List.length_take]
  · have hw' : (declsW sg ms i != 0) = true := by simpa using hw
    rw [if_neg hw]
    simp -implicitDefEqProofs (disch := decide +kernel) only [cf, cs, bodyOf, Try.f13, Option.getD_some, go_sem, ↓reduceIte, Nat.reduceSub, Nat.reduceAdd, Nat.reduceMul, Nat.reduceBEq, Nat.reduceLT, Nat.reduceLeDiff, Nat.reduceEqDiff, reduceCtorEq, Int.reduceToNat, Int.reduceLE, Int.reduceLT, Int.reduceBEq, Int.reduceBNe, mCall, decls_H, decls_L, mYld_K, c1, hw', hlen, cells_encM, List.length_take]
theorem mDecls_spec {K : Int} {sg : List Dc} {ms : List Md} (hin : WIn K ⟨sg, ms, []⟩) : ∃ h, (lim C).call 13 [dDs sg, dMs ms] [] = some (.ret (.tup [dI (DeclsR sg ms).1, dI (DeclsR sg ms).2]), h) := by
  have hr : room = 1099511627776 := rfl
  have hah := fun h => ahM_spec ms h
  have hml := hin.sz.ml
  have hml : ms.length < room := hml
  unfold DeclsR firstR
  cases k1 : decide ((ms.length : Int) > 40)
  · rw [if_neg (by simpa using k1)]
    obtain ⟨hh, h1, h2⟩ := ahM1_spec (decls_yields hin) hml (fun i => rfl) (j := 3)
    rcases h2 with ⟨ha, rfl⟩ | ⟨i, hi, hne, hp, rfl⟩
    · rw [fstR_miss ms.length 0 fun i _ h => ha i (by omega)]
      refine ⟨[.var 0 [dDs sg], .var 0 [dI 0], .var 0 [dI 0], .var 0 [dMs ms], .dead], ?_⟩
      rw [ev_fn 13 Try.f13 _ _ _ rfl Try.func13 rfl Try.ntmps13 rfl]
      simp -implicitDefEqProofs (disch := decide +kernel) only [go_sem, ↓reduceIte, Nat.reduceSub, Nat.reduceAdd, Nat.reduceMul, Nat.reduceBEq, Nat.reduceLT, Nat.reduceLeDiff, Nat.reduceEqDiff, reduceCtorEq, Int.reduceToNat, Int.reduceLE, Int.reduceLT, Int.reduceBEq, Int.reduceBNe, mCall, hah, k1]
      rw [call_at h1 ?hh]
      case hh => rfl
      simp -implicitDefEqProofs (disch := decide +kernel) only [go_sem, ↓reduceIte, Nat.reduceSub, Nat.reduceAdd, Nat.reduceMul, Nat.reduceBEq, Nat.reduceLT, Nat.reduceLeDiff, Nat.reduceEqDiff, reduceCtorEq, Int.reduceToNat, Int.reduceLE, Int.reduceLT, Int.reduceBEq, Int.reduceBNe, mCall, decls_H]
    · rw [fstR_hit hp hne ms.length 0 (Nat.zero_le i) (by omega)]
      refine ⟨[.var 0 [dDs sg], .var 0 [dI i], .var 0 [dI (declsW sg ms i)], .var 0 [dMs ms], .dead], ?_⟩
      rw [ev_fn 13 Try.f13 _ _ _ rfl Try.func13 rfl Try.ntmps13 rfl]
      simp -implicitDefEqProofs (disch := decide +kernel) only [go_sem, ↓reduceIte, Nat.reduceSub, Nat.reduceAdd, Nat.reduceMul, Nat.reduceBEq, Nat.reduceLT, Nat.reduceLeDiff, Nat.reduceEqDiff, reduceCtorEq, Int.reduceToNat, Int.reduceLE, Int.reduceLT, Int.reduceBEq, Int.reduceBNe, mCall, hah, k1]
      rw [call_at h1 ?hh]
      case hh => rfl
      simp -implicitDefEqProofs (disch := decide +kernel) only [go_sem, ↓reduceIte, Nat.reduceSub, Nat.reduceAdd, Nat.reduceMul, Nat.reduceBEq, Nat.reduceLT, Nat.reduceLeDiff, Nat.reduceEqDiff, reduceCtorEq, Int.reduceToNat, Int.reduceLE, Int.reduceLT, Int.reduceBEq, Int.reduceBNe, mCall, decls_H]
  · rw [if_pos (by simpa using k1)]
    refine ⟨[.var 0 [dDs sg], .var 0 [dI 0], .var 0 [dI 4]], ?_⟩
    rw [ev_fn 13 Try.f13 _ _ _ rfl Try.func13 rfl Try.ntmps13 rfl]
    simp -implicitDefEqProofs (disch := decide +kernel) only [go_sem, ↓reduceIte, Nat.reduceSub, Nat.reduceAdd, Nat.reduceMul, Nat.reduceBEq, Nat.reduceLT, Nat.reduceLeDiff, Nat.reduceEqDiff, reduceCtorEq, Int.reduceToNat, Int.reduceLE, Int.reduceLT, Int.reduceBEq, Int.reduceBNe, mCall, hah, k1]
end Go.Proofs.Ytkmpfdecjmnccaa
/- The package metas: Sizes, Params. -/
set_option linter.unusedSimpArgs false
set_option linter.unusedVariables false
set_option maxRecDepth 100000
namespace Go.Proofs.Ytkmpfdecjmnccaa
open Go.Proofs
def tkA (tk : List (Option Nat)) (n : Nat) : List (Option Nat) := if n = 0 then tk else tk ++ [some n]
theorem app_gen (ys : List Dv) (sz : Nat) (h3 : (sz == 3) = false) (tk : List (Option Nat)) (locs : List (Option (List AV))) (heap : List HO) (hr : ys.length ≤ room) (hw : (ys.all fun x => x.width == sz) = true) :
    mApp (.clip []) ys sz { locs := locs, heap := heap, toks := tk } = some (.v (acc tk.length ys), { locs := locs, heap := heap, toks := tkA tk ys.length }) := by
  cases ys with
  | nil => simp [mApp, h3, acc, tkA]
  | cons y ys =>
    simp [mApp, appOwn, hr, acc, tkA]
    simpa using And.intro (by simpa using hr) hw
theorem app_gen2 (xs ys : List Dv) (sz : Nat) (h3 : (sz == 3) = false) (tk : List (Option Nat)) (locs : List (Option (List AV))) (heap : List HO) (hr : xs.length + ys.length ≤ room) (hx : (xs.all fun x => x.width == sz) = true) (hw : (ys.all fun x => x.width == sz) = true) :
    mApp (acc tk.length xs) ys sz { locs := locs, heap := heap, toks := tkA tk xs.length } = some (.v (acc tk.length (xs ++ ys)), { locs := locs, heap := heap, toks := tkA tk (xs ++ ys).length }) := by
  cases xs with
  | nil => exact app_gen ys sz h3 tk locs heap (by simpa using hr) hw
  | cons x xs =>
    have hlen : (x :: xs ++ ys).length = (x :: xs).length + ys.length := List.length_append
    have h1 : tkA tk (x :: xs).length = tk ++ [some (x :: xs).length] := by simp [tkA]
    have h2 : tkA tk (x :: xs ++ ys).length = tk ++ [some ((x :: xs).length + ys.length)] := by
      rw [hlen]; unfold tkA; rw [if_neg (by simp)]
    rw [h1, h2]
    show mApp (.own tk.length (x :: xs)) ys sz { locs := locs, heap := heap, toks := tk ++ [some (x :: xs).length] } = some (.v (.own tk.length (x :: xs ++ ys)), _)
    simp only [mApp, appOwn, List.isEmpty_cons, Bool.false_and, Bool.false_eq_true, if_false]
    simp only [hr, hx, hw]
    simp
def SizesL (ms : List Md) : List Int := ms.map fun d => (d.ctx.length : Int)
theorem SizesL_snoc {ms : List Md} {i : Nat} (hi : i < ms.length) : encIs ((SizesL ms).take i) ++ [.int .i64 ((ms.getD i default).ctx.length : Int)] = encIs ((SizesL ms).take (i + 1)) := by
  have h : (SizesL ms)[i]? = some ((ms.getD i default).ctx.length : Int) := by simp [SizesL, List.getElem?_eq_getElem hi, List.getD]
  rw [List.take_add_one, h]
  simp [encIs, encI]
theorem encIs_all (l : List Int) : ((encIs l).all fun x => x.width == 1) = true := by simp [encIs, encI]; intros; rfl
def sz_S (ms : List Md) (i : Nat) : St := mk 20 [(3, acc 0 (encIs ((SizesL ms).take i))), (6, dMs ms), (7, dI ms.length), (8, dI i)] [] [] (tkA [] ((SizesL ms).take i).length)
theorem mSizes_spec (ms : List Md) (hl : ms.length < room) : (lim C).call 21 [dMs ms] [] = some (.ret (.d (.slc (encIs (SizesL ms)))), []) := by
  have hr : room = 1099511627776 := rfl
  have hlen : ∀ i, i ≤ ms.length → ((SizesL ms).take i).length = i := fun i h => by simp [SizesL]; omega
  have hloop : (lim C).code 21 (.loop (cf (cf (cs (cf (cs (cs (bodyOf Try.f21)))))))) (sz_S ms 0) = some (.exit 0, mk 20 [(3, acc 0 (encIs (SizesL ms))), (6, dMs ms), (7, dI ms.length), (8, dI ms.length), (9, dB false)] [] [] (tkA [] (SizesL ms).length)) := by
    refine loop_run (sz_S ms) ms.length (fun i hi => ?_) ?_ (by simp)
    · have ha := fun locs heap => app_gen2 (encIs ((SizesL ms).take i)) [.int .i64 ((ms.getD i default).ctx.length : Int)] 1 rfl [] locs heap (by rw [encIs_len, hlen i (by omega)]; simp; omega) (encIs_all _) rfl
      simp only [SizesL_snoc hi, encIs_len, List.length_nil] at ha
      simp -implicitDefEqProofs (disch := decide +kernel) only [cf, cs, bodyOf, Try.f21, Option.getD_some, go_sem, ↓reduceIte, Nat.reduceSub, Nat.reduceAdd, Nat.reduceMul, Nat.reduceBEq, Nat.reduceLT, Nat.reduceLeDiff, Nat.reduceEqDiff, reduceCtorEq, Int.reduceToNat, Int.reduceLE, Int.reduceLT, Int.reduceBEq, Int.reduceBNe, mCall, sz_S, lt_true hi, mget_get hi, cells_encM, acc_sl, acc_okA, ha, wrap_succ (n := i) (by omega)]
    · have ht : (SizesL ms).take ms.length = SizesL ms := by rw [List.take_of_length_le]; simp [SizesL]
      simp -implicitDefEqProofs (disch := decide +kernel) only [cf, cs, bodyOf, Try.f21, Option.getD_some, go_sem, ↓reduceIte, Nat.reduceSub, Nat.reduceAdd, Nat.reduceMul, Nat.reduceBEq, Nat.reduceLT, Nat.reduceLeDiff, Nat.reduceEqDiff, reduceCtorEq, Int.reduceToNat, Int.reduceLE, Int.reduceLT, Int.reduceBEq, Int.reduceBNe, mCall, sz_S, lt_false (Nat.le_refl ms.length), ht]
  rw [ev_fn 21 Try.f21 _ _ _ rfl Try.func21 rfl Try.ntmps21 rfl]
  simp -implicitDefEqProofs (disch := decide +kernel) only [go_sem, ↓reduceIte, Nat.reduceSub, Nat.reduceAdd, Nat.reduceMul, Nat.reduceBEq, Nat.reduceLT, Nat.reduceLeDiff, Nat.reduceEqDiff, reduceCtorEq, Int.reduceToNat, Int.reduceLE, Int.reduceLT, Int.reduceBEq, Int.reduceBNe, mCall]
  rw [loop_at hloop ?hb ?hs]
  case hb => rfl
  case hs => rfl
  simp -implicitDefEqProofs (disch := decide +kernel) only [go_sem, ↓reduceIte, Nat.reduceSub, Nat.reduceAdd, Nat.reduceMul, Nat.reduceBEq, Nat.reduceLT, Nat.reduceLeDiff, Nat.reduceEqDiff, reduceCtorEq, Int.reduceToNat, Int.reduceLE, Int.reduceLT, Int.reduceBEq, Int.reduceBNe, mCall, acc_erase, acc_okA]
end Go.Proofs.Ytkmpfdecjmnccaa
/- The package metas: Sub. -/
set_option linter.unusedSimpArgs false
set_option linter.unusedVariables false
set_option maxRecDepth 100000
namespace Go.Proofs.Ytkmpfdecjmnccaa
open Go.Proofs
def subCx (dl : List Md) (th : List Tm) (i : Nat) : List Tm × Int := CtxR (dl.getD i default).ctx (th.take i) 0
def subTy (dl : List Md) (th : List Tm) (i : Nat) : Tm × Int := FillR (dl.getD i default).t (th.take i) (dl.getD i default).ctx.length
def subW (w : Wo) (dl : List Md) (th : List Tm) (i : Nat) : Int :=
  if (subCx dl th i).2 ≠ 0 then (subCx dl th i).2 else if (subTy dl th i).2 ≠ 0 then (subTy dl th i).2
  else if TermR w.wd (w.ctx ++ (subCx dl th i).1) (th.getD i default) (subTy dl th i).1 ≠ 0 then TermR w.wd (w.ctx ++ (subCx dl th i).1) (th.getD i default) (subTy dl th i).1
  else if ((dl.getD i default).param && !varB (th.getD i default) w.metas) = true then 3 else 0
def SubR (w : Wo) (dl : List Md) (th : List Tm) : Int :=
  if (dl.length : Int) > 40 then 4 else if th.length ≠ dl.length then 3 else (fstR (subW w dl th) th.length 0).2
theorem fillR_vle' {t : Tm} {th : List Tm} {K : Int} (h : ThOk K th) (hv : vleB K t = true) (n : Int) : vleB (K + 200000000) (FillR t th n).1 = true := by
  have h0 := h.h0
  unfold FillR
  by_cases ho : fillOk t th n = true
  · have hp := may_parts (fillOk_parts ho).1
    rw [if_pos ho]
    unfold fillW
    split
    · split
      · exact vle_mono (by omega) (fill_fits h.h0 (fun x hx => (h.all x hx).2) t n hp.1 hv).1
      · exact zT_vle _
    · exact zT_vle _
  · rw [if_neg ho]; exact zT_vle _
theorem nodes_head {t : Tm} (h : nodesB t = true) : 0 ≤ t.head := by
  rw [nodesB_eq, Bool.and_eq_true] at h
  exact node_head h.1
theorem out_mem {F : Nat → Tm} {k : Nat} {x : Tm} (h : x ∈ outs F k) : ∃ i, i < k ∧ x = F i := by
  unfold outs at h
  obtain ⟨i, hi, rfl⟩ := List.mem_map.1 h
  exact ⟨i, List.mem_range.1 hi, rfl⟩
theorem ctxR_in {l th : List Tm} {K n : Int} (h : ThOk K th) (hl : LOk K l) : (CtxR l th n).1.length ≤ l.length ∧ ∀ x ∈ (CtxR l th n).1, x.size ≤ 4000 ∧ vleB (K + 200000000) x = true := by
  unfold CtxR eachR
  split
  · refine ⟨by simp [outs], fun x hx => ?_⟩
    obtain ⟨i, hi, rfl⟩ := out_mem hx
    exact ⟨fillR_size _ _ _, fillR_vle' h (hl.at hi).2 _⟩
  · exact ⟨by simp, by simp⟩
structure DlOk (K : Int) (dl : List Md) : Prop where
  len : dl.length < room
  all : ∀ d ∈ dl, LOk K d.ctx ∧ d.t.size ≤ 1048576 ∧ vleB K d.t = true
theorem ThOk.take {K : Int} {th : List Tm} (h : ThOk K th) (i : Nat) : ThOk K (th.take i) :=
  ⟨h.h0, h.top, by have := h.len; simp; omega, fun x hx => h.all x (List.mem_of_mem_take hx)⟩
theorem WIn.add {K : Int} {sg : List Dc} {ms : List Md} {ext : List Tm} (h : WIn K ⟨sg, ms, ext⟩) (ht : K + 20200000000 ≤ topV) {c : List Tm} (hs : ∀ x ∈ c, x.size ≤ 4000 ∧ vleB (K + 200000000) x = true) (hl : ext.length + c.length < room) : WIn (K + 200000000) ⟨sg, ms, ext ++ c⟩ := by
  have hr : room = 1099511627776 := rfl
  have hk := h.hk
  refine ⟨⟨by simp; omega, fun x hx => ?_, h.sz.sl, h.sz.sz, h.sz.ml, h.sz.mz⟩, by omega, by omega, fun x hx => ?_, fun d hd => vle_mono (by omega) (h.sig d hd), fun d hd => ⟨vle_mono (by omega) (h.metas d hd).1, fun x hx => vle_mono (by omega) ((h.metas d hd).2 x hx)⟩⟩
  · rcases List.mem_append.1 hx with hx | hx
    · exact h.sz.cz x hx
    · have := (hs x hx).1; omega
  · rcases List.mem_append.1 hx with hx | hx
    · exact vle_mono (by omega) (h.ctx x hx)
    · exact (hs x hx).2
noncomputable def sub_L : LoopA := { fn := 17, tmps := tl 82 [(5, .href 0 0), (6, .href 1 0), (7, .href 2 0), (8, .href 3 0), (10, .href 4 0), (28, .fn 67 [] [.href 5 0])], params := [29, 30], assign := cf (cf (cs (cf (cs (cs (bodyOf Try.f17)))))), body := cs (cf (cs (cf (cs (cs (bodyOf Try.f17)))))) }
noncomputable def sub_H (w : Wo) (dl : List Md) (th : List Tm) (e : Int) (o : HO) : List HO := [.var 0 [dDs w.sig], .var 0 [dMs w.metas], .var 0 [dL w.ctx], .var 0 [dMs dl], .var 0 [dI e], .var 0 [dL th], o]
set_option maxHeartbeats 4000000 in
theorem sub_yields {K : Int} {w : Wo} {dl : List Md} {th : List Tm} (hin : WIn K w) (ht : K + 20200000000 ≤ topV) (hth : ThOk K th) (hdl : DlOk K dl) (hlen : th.length = dl.length) (hcl : w.ctx.length + 1048576 < room) :
    YieldsA 6 (fun _ => sub_H w dl th 0 (.loop .ready none sub_L)) (fun i => sub_H w dl th (subW w dl th i) (.loop .done (some .ret) sub_L)) (fun i => (encs th).take i) (encs th) (subW w dl th) := by
  have hr : room = 1099511627776 := rfl
  obtain ⟨sg, ms, ext⟩ := w
  have hcl : ext.length + 1048576 < room := hcl
  intro i x hx hp locs toks
  rw [encs_get] at hx
  obtain ⟨t, htt, rfl⟩ := Option.map_eq_some_iff.1 hx
  obtain ⟨hlt, hat⟩ := getD_of_get htt
  have hld : i < dl.length := by omega
  obtain ⟨d1, d2, d3⟩ := hdl.all _ (mget_mem hld)
  have hti := hth.take i
  have tz := hth.all t (List.mem_of_getElem? htt)
  obtain ⟨h1, c1⟩ := mCtx_spec hti (dl.getD i default).ctx d1 0 (by unfold in64; omega)
  obtain ⟨h2, c2⟩ := mFill_spec hti (dl.getD i default).t d2 d3 (dl.getD i default).ctx.length
  have hci := ctxR_in (n := 0) hti d1
  have hd1 := d1.len
  obtain ⟨h3, c3⟩ := cTerm_spec (hin.add ht hci.2 (by omega)) t (subTy dl th i).1 tz.1 (by have := fillR_size (dl.getD i default).t (th.take i) (dl.getD i default).ctx.length; unfold subTy; omega) (fillR_vle' hti d3 _)
  have hcc := concat_spec ext (subCx dl th i).1 (by have := hci.1; unfold subCx; omega)
  have c3 : (lim C).call 16 [dDs sg, dMs ms, dL (ext ++ (subCx dl th i).1), dT t, dT (subTy dl th i).1] [] = some (.ret (dI (TermR (Wo.wd ⟨sg, ms, ext⟩) (ext ++ (subCx dl th i).1) t (subTy dl th i).1)), h3) := c3
  have c1 : (lim C).call 18 [dL (dl.getD i default).ctx, .d (.slc (encs (th.take i))), dI 0] [] = some (.ret (.tup [dL (subCx dl th i).1, dI (subCx dl th i).2]), h1) := c1
  have c2 : (lim C).call 19 [dT (dl.getD i default).t, .d (.slc (encs (th.take i))), dI (dl.getD i default).ctx.length] [] = some (.ret (.tup [dT (subTy dl th i).1, dI (subTy dl th i).2]), h2) := c2
  rw [encs_take] at c1 c2
  have hmn : min i th.length = i := by omega
  have hsw : subW ⟨sg, ms, ext⟩ dl th i = if (subCx dl th i).2 ≠ 0 then (subCx dl th i).2 else if (subTy dl th i).2 ≠ 0 then (subTy dl th i).2
    else if TermR (Wo.wd ⟨sg, ms, ext⟩) (ext ++ (subCx dl th i).1) t (subTy dl th i).1 ≠ 0 then TermR (Wo.wd ⟨sg, ms, ext⟩) (ext ++ (subCx dl th i).1) t (subTy dl th i).1
    else if ((dl.getD i default).param && !varB t ms) = true then 3 else 0 := by
    unfold subW; rw [hat]
  show mYld (lim C) 6 [.clip ((encs th).take i), .d (enc t)] { locs := locs, heap := sub_H ⟨sg, ms, ext⟩ dl th 0 (.loop .ready none sub_L), toks := toks } = some (if subW ⟨sg, ms, ext⟩ dl th i = 0 then (.v (dB true), { locs := locs, heap := sub_H ⟨sg, ms, ext⟩ dl th 0 (.loop .ready none sub_L), toks := toks }) else (.v (dB false), { locs := locs, heap := sub_H ⟨sg, ms, ext⟩ dl th (subW ⟨sg, ms, ext⟩ dl th i) (.loop .done (some .ret) sub_L), toks := toks }))
  generalize subW ⟨sg, ms, ext⟩ dl th i = v at hsw ⊢
  generalize subCx dl th i = cx at *
  generalize subTy dl th i = ty at *
  generalize hte : TermR (Wo.wd ⟨sg, ms, ext⟩) (ext ++ cx.1) t ty.1 = te at *
  have hid := mget_get hld
  have het := (enc_eq t).symm
  have hea := (enc_eq (dl.getD i default).t).symm
  have hey := (enc_eq ty.1).symm
  have hz : ((0 : Int) == 0) = true := rfl
  have hz' : ((0 : Int) != 0) = false := rfl
  have h3z : ((3 : Int) != 0) = true := rfl
  have h3z' : ((3 : Int) == 0) = false := rfl
  by_cases e1 : cx.2 = 0
  · rw [e1] at c1 hsw
    rw [if_neg (by decide)] at hsw
    by_cases e2 : ty.2 = 0
    · rw [e2] at c2 hsw
      rw [if_neg (by decide)] at hsw
      by_cases e3 : te = 0
      · subst e3
        rw [if_neg (by decide)] at hsw
        have hmt := mayW_of (TermR_ok hte).1 t (by simp)
        have hv := mvar_spec t ms (nodes_head (may_parts hmt).1)
        cases e4 : (dl.getD i default).param
        · rw [e4, if_neg (by simp)] at hsw
          rw [if_pos hsw]
          simp -implicitDefEqProofs (disch := decide +kernel) only [cf, cs, bodyOf, Try.f17, Option.getD_some, go_sem, ↓reduceIte, Nat.reduceSub, Nat.reduceAdd, Nat.reduceMul, Nat.reduceBEq, Nat.reduceLT, Nat.reduceLeDiff, Nat.reduceEqDiff, reduceCtorEq, Int.reduceToNat, Int.reduceLE, Int.reduceLT, Int.reduceBEq, Int.reduceBNe, mCall, sub_H, sub_L, mYld_K, c1, c2, c3, hcc, hid, hmn, e4, hz, hz', het, hea, hey, cells_enc, cel3, cells_encM, List.length_take]
        · cases e5 : varB t ms
          · rw [e5] at hv
            rw [e4, e5, if_pos (by rfl)] at hsw
            subst hsw
            rw [if_neg (by decide)]
            simp -implicitDefEqProofs (disch := decide +kernel) only [cf, cs, bodyOf, Try.f17, Option.getD_some, go_sem, ↓reduceIte, Nat.reduceSub, Nat.reduceAdd, Nat.reduceMul, Nat.reduceBEq, Nat.reduceLT, Nat.reduceLeDiff, Nat.reduceEqDiff, reduceCtorEq, Int.reduceToNat, Int.reduceLE, Int.reduceLT, Int.reduceBEq, Int.reduceBNe, mCall, sub_H, sub_L, mYld_K, c1, c2, c3, hcc, hid, hmn, e4, hv, hz, hz', h3z, h3z', het, hea, hey, cells_enc, cel3, cells_encM, List.length_take]
          · rw [e5] at hv
            rw [e4, e5, if_neg (by decide)] at hsw
            rw [if_pos hsw]
            simp -implicitDefEqProofs (disch := decide +kernel) only [cf, cs, bodyOf, Try.f17, Option.getD_some, go_sem, ↓reduceIte, Nat.reduceSub, Nat.reduceAdd, Nat.reduceMul, Nat.reduceBEq, Nat.reduceLT, Nat.reduceLeDiff, Nat.reduceEqDiff, reduceCtorEq, Int.reduceToNat, Int.reduceLE, Int.reduceLT, Int.reduceBEq, Int.reduceBNe, mCall, sub_H, sub_L, mYld_K, c1, c2, c3, hcc, hid, hmn, e4, hv, hz, hz', het, hea, hey, cells_enc, cel3, cells_encM, List.length_take]
      · have e3' : (te == 0) = false := by simpa using e3
        have e3'' : (te != 0) = true := by simpa using e3
        rw [if_pos e3] at hsw
        subst hsw
        rw [if_neg e3]
        simp -implicitDefEqProofs (disch := decide +kernel) only [cf, cs, bodyOf, Try.f17, Option.getD_some, go_sem, ↓reduceIte, Nat.reduceSub, Nat.reduceAdd, Nat.reduceMul, Nat.reduceBEq, Nat.reduceLT, Nat.reduceLeDiff, Nat.reduceEqDiff, reduceCtorEq, Int.reduceToNat, Int.reduceLE, Int.reduceLT, Int.reduceBEq, Int.reduceBNe, mCall, sub_H, sub_L, mYld_K, c1, c2, c3, hcc, hid, hmn, hz, hz', e3', e3'', het, hea, hey, cells_enc, cel3, cells_encM, List.length_take]
    · have e2' : (ty.2 == 0) = false := by simpa using e2
      have e2'' : (ty.2 != 0) = true := by simpa using e2
      rw [if_pos e2] at hsw
      subst hsw
      rw [if_neg e2]
      simp -implicitDefEqProofs (disch := decide +kernel) only [cf, cs, bodyOf, Try.f17, Option.getD_some, go_sem, ↓reduceIte, Nat.reduceSub, Nat.reduceAdd, Nat.reduceMul, Nat.reduceBEq, Nat.reduceLT, Nat.reduceLeDiff, Nat.reduceEqDiff, reduceCtorEq, Int.reduceToNat, Int.reduceLE, Int.reduceLT, Int.reduceBEq, Int.reduceBNe, mCall, sub_H, sub_L, mYld_K, c1, c2, hcc, hid, hmn, hz, hz', e2', e2'', het, hea, hey, cells_enc, cel3, cells_encM, List.length_take]
  · have e1' : (cx.2 != 0) = true := by simpa using e1
    rw [if_pos e1] at hsw
    subst hsw
    rw [if_neg e1]
    simp -implicitDefEqProofs (disch := decide +kernel) only [cf, cs, bodyOf, Try.f17, Option.getD_some, go_sem, ↓reduceIte, Nat.reduceSub, Nat.reduceAdd, Nat.reduceMul, Nat.reduceBEq, Nat.reduceLT, Nat.reduceLeDiff, Nat.reduceEqDiff, reduceCtorEq, Int.reduceToNat, Int.reduceLE, Int.reduceLT, Int.reduceBEq, Int.reduceBNe, mCall, sub_H, sub_L, mYld_K, c1, hid, hmn, e1', het, hea, hey, cells_enc, cel3, cells_encM, List.length_take]
theorem mSub_spec {K : Int} {w : Wo} {dl : List Md} {th : List Tm} (hin : WIn K w) (ht : K + 20200000000 ≤ topV) (hth : ThOk K th) (hdl : DlOk K dl) (hcl : w.ctx.length + 1048576 < room) : ∃ h, (lim C).call 17 [dDs w.sig, dMs w.metas, dL w.ctx, dMs dl, dL th] [] = some (.ret (dI (SubR w dl th)), h) := by
  have hr : room = 1099511627776 := rfl
  have hah := fun h => ahT_spec th h
  have htl := hth.len
  unfold SubR
  cases k1 : decide ((dl.length : Int) > 40)
  · rw [if_neg (by simpa using k1)]
    cases k2 : ((th.length : Int) != (dl.length : Int))
    · have hlen : th.length = dl.length := by
        have h : (th.length : Int) = (dl.length : Int) := by simpa using k2
        omega
      rw [if_neg (by omega)]
      obtain ⟨hh, h1, h2⟩ := ahT1_spec (sub_yields hin ht hth hdl hlen hcl) htl (fun i => rfl) (j := 5)
      rcases h2 with ⟨ha, rfl⟩ | ⟨i, hi, hne, hp, rfl⟩
      · rw [fstR_miss th.length 0 fun i _ h => ha i (by omega)]
        refine ⟨[.var 0 [dDs w.sig], .var 0 [dMs w.metas], .var 0 [dL w.ctx], .var 0 [dMs dl], .var 0 [dI 0], .var 0 [dL th], .dead], ?_⟩
        rw [ev_fn 17 Try.f17 _ _ _ rfl Try.func17 rfl Try.ntmps17 rfl]
        simp -implicitDefEqProofs (disch := decide +kernel) only [go_sem, ↓reduceIte, Nat.reduceSub, Nat.reduceAdd, Nat.reduceMul, Nat.reduceBEq, Nat.reduceLT, Nat.reduceLeDiff, Nat.reduceEqDiff, reduceCtorEq, Int.reduceToNat, Int.reduceLE, Int.reduceLT, Int.reduceBEq, Int.reduceBNe, mCall, hah, k1, k2]
        rw [call_at h1 ?hh]
        case hh => rfl
        simp -implicitDefEqProofs (disch := decide +kernel) only [go_sem, ↓reduceIte, Nat.reduceSub, Nat.reduceAdd, Nat.reduceMul, Nat.reduceBEq, Nat.reduceLT, Nat.reduceLeDiff, Nat.reduceEqDiff, reduceCtorEq, Int.reduceToNat, Int.reduceLE, Int.reduceLT, Int.reduceBEq, Int.reduceBNe, mCall, sub_H]
      · rw [fstR_hit hp hne th.length 0 (Nat.zero_le i) (by omega)]
        refine ⟨[.var 0 [dDs w.sig], .var 0 [dMs w.metas], .var 0 [dL w.ctx], .var 0 [dMs dl], .var 0 [dI (subW w dl th i)], .var 0 [dL th], .dead], ?_⟩
        rw [ev_fn 17 Try.f17 _ _ _ rfl Try.func17 rfl Try.ntmps17 rfl]
        simp -implicitDefEqProofs (disch := decide +kernel) only [go_sem, ↓reduceIte, Nat.reduceSub, Nat.reduceAdd, Nat.reduceMul, Nat.reduceBEq, Nat.reduceLT, Nat.reduceLeDiff, Nat.reduceEqDiff, reduceCtorEq, Int.reduceToNat, Int.reduceLE, Int.reduceLT, Int.reduceBEq, Int.reduceBNe, mCall, hah, k1, k2]
        rw [call_at h1 ?hh]
        case hh => rfl
        simp -implicitDefEqProofs (disch := decide +kernel) only [go_sem, ↓reduceIte, Nat.reduceSub, Nat.reduceAdd, Nat.reduceMul, Nat.reduceBEq, Nat.reduceLT, Nat.reduceLeDiff, Nat.reduceEqDiff, reduceCtorEq, Int.reduceToNat, Int.reduceLE, Int.reduceLT, Int.reduceBEq, Int.reduceBNe, mCall, sub_H]
    · have hlen : th.length ≠ dl.length := by
        have h : ¬(th.length : Int) = (dl.length : Int) := by simpa using k2
        omega
      rw [if_pos hlen]
      refine ⟨[.var 0 [dDs w.sig], .var 0 [dMs w.metas], .var 0 [dL w.ctx], .var 0 [dMs dl], .var 0 [dI 3]], ?_⟩
      rw [ev_fn 17 Try.f17 _ _ _ rfl Try.func17 rfl Try.ntmps17 rfl]
      simp -implicitDefEqProofs (disch := decide +kernel) only [go_sem, ↓reduceIte, Nat.reduceSub, Nat.reduceAdd, Nat.reduceMul, Nat.reduceBEq, Nat.reduceLT, Nat.reduceLeDiff, Nat.reduceEqDiff, reduceCtorEq, Int.reduceToNat, Int.reduceLE, Int.reduceLT, Int.reduceBEq, Int.reduceBNe, mCall, k1, k2]
  · rw [if_pos (by simpa using k1)]
    refine ⟨[.var 0 [dDs w.sig], .var 0 [dMs w.metas], .var 0 [dL w.ctx], .var 0 [dMs dl], .var 0 [dI 4]], ?_⟩
    rw [ev_fn 17 Try.f17 _ _ _ rfl Try.func17 rfl Try.ntmps17 rfl]
    simp -implicitDefEqProofs (disch := decide +kernel) only [go_sem, ↓reduceIte, Nat.reduceSub, Nat.reduceAdd, Nat.reduceMul, Nat.reduceBEq, Nat.reduceLT, Nat.reduceLeDiff, Nat.reduceEqDiff, reduceCtorEq, Int.reduceToNat, Int.reduceLE, Int.reduceLT, Int.reduceBEq, Int.reduceBNe, mCall, k1]
end Go.Proofs.Ytkmpfdecjmnccaa
/- The laws of layer 12: the example, Few. -/
set_option linter.unusedSimpArgs false
set_option linter.unusedVariables false
set_option maxRecDepth 100000
namespace Go.Proofs.Ytkmpfdecjmnccaa
open Go.Proofs
def mNat : Md := ⟨[], tNat, false⟩
def tLSZ : Tm := .mk 3 0 [tSZ]
theorem tLSZ_may : mayB tLSZ = true := small_may (by decide) (by simpa using tSZ_may) (by simp [mk_size, tSZ, tZ]) (by simp [mk_depth, tSZ, tZ])
theorem tLSZ_vle : vleB 0 tLSZ = true := vle_mk (fun e => by cases e) (by simpa using tSZ_vle)
theorem nat_L : TermR natW.wd natW.ctx tLSZ tNat = 3 := by
  unfold TermR
  rw [natW_may (by simp [tLSZ_may, tNat_may]), if_pos rfl, term_lam rfl, if_neg (by decide)]
theorem nat_cx (th : List Tm) : subCx [mNat] th 0 = ([], 0) := rfl
theorem nat_ty (th : List Tm) : subTy [mNat] th 0 = (tNat, 0) := by
  refine fillR_none (fillOk_of tNat_may (by decide) (by decide) (by simp) (by simp)) ?_
  show metasB tNat = false
  rw [metasB_eq]; rfl
theorem nat_sub1 : SubR natW [mNat] [tSZ] = 0 := by
  have h : subW natW [mNat] [tSZ] 0 = 0 := by
    unfold subW
    rw [nat_cx, nat_ty]
    have h1 : TermR natW.wd (natW.ctx ++ []) ([tSZ].getD 0 default) tNat = 0 := nat_1
    simp only [h1]
    rfl
  unfold SubR
  rw [if_neg (by decide), if_neg (by decide)]
  show (fstR _ (0 + 1) 0).2 = 0
  unfold fstR
  rw [if_neg (by rw [h]; decide)]
  rfl
theorem nat_sub2 : SubR natW [mNat] [tLSZ] = 3 := by
  have h : subW natW [mNat] [tLSZ] 0 = 3 := by
    unfold subW
    rw [nat_cx, nat_ty]
    have h1 : TermR natW.wd (natW.ctx ++ []) ([tLSZ].getD 0 default) tNat = 3 := nat_L
    simp only [h1]
    rfl
  unfold SubR
  rw [if_neg (by decide), if_neg (by decide)]
  show (fstR _ (0 + 1) 0).2 = 3
  unfold fstR
  rw [if_pos (by rw [h]; decide), h]
theorem nat_decls : DeclsR natSig [mNat] = (0, 0) := by
  have h : declsW natSig [mNat] 0 = 0 := by
    unfold declsW declMW
    have h1 : CtxWR (Wo.wd ⟨natSig, List.take 0 [mNat], []⟩) [] ([mNat].getD 0 default).ctx = 0 := rfl
    rw [h1, if_neg (by decide), if_neg (by decide)]
    exact nat_5
  unfold DeclsR firstR
  rw [if_neg (by decide)]
  show fstR _ (0 + 1) 0 = _
  unfold fstR
  rw [if_neg (by rw [h]; decide)]
  rfl
theorem awake12_spec : (lim C).call 7 [] [] = retB true := by
  have hr : room = 1099511627776 := rfl
  have hz := zT_enc
  have htv : topV = 1125899906842624 := rfl
  have e1 : Dv.agg [.int .i64 2, .int .i64 0, .slc []] = enc tNat := tmc 2 0 [] rfl
  have em : Dv.agg [.slc [], .int .i64 2, .int .i64 0, .slc [], .bool false] = encM mNat := rfl
  have e3 : Dv.agg [.int .i64 5, .int .i64 1, .slc []] = enc tZ := tmc 5 1 [] rfl
  have e6 : Dv.agg [.int .i64 5, .int .i64 2, .slc [enc tZ]] = enc tSZ := tmc 5 2 [tZ] rfl
  have e7 : Dv.agg [.int .i64 3, .int .i64 0, .slc [enc tSZ]] = enc tLSZ := tmc 3 0 [tSZ] rfl
  have hdl : DlOk 2097152 [mNat] := ⟨by decide, by
    intro d hd
    obtain rfl : d = mNat := by simpa using hd
    exact ⟨⟨by decide, by simp [mNat]⟩, by have := (may_parts tNat_may).2.1; show tNat.size ≤ 1048576; omega, vle_mono (by decide) tNat_vle⟩⟩
  have hth : ∀ t, mayB t = true → vleB 0 t = true → ThOk 2097152 [t] := fun t h1 h2 => ⟨by decide, by rw [htv]; decide, by show 1 < room; decide, by
    intro x hx
    obtain rfl : x = t := by simpa using hx
    exact ⟨may_room h1, vle_mono (by decide) h2⟩⟩
  obtain ⟨h1, c1⟩ := mSub_spec natW_in (by rw [htv]; decide) (hth tSZ tSZ_may tSZ_vle) hdl (by decide)
  obtain ⟨h2, c2⟩ := mSub_spec natW_in (by rw [htv]; decide) (hth tLSZ tLSZ_may tLSZ_vle) hdl (by decide)
  rw [nat_sub1] at c1
  rw [nat_sub2] at c2
  have hdin : WIn 2097152 ⟨natSig, [mNat], []⟩ := by
    have h := natW_in
    refine ⟨⟨h.sz.cl, h.sz.cz, h.sz.sl, h.sz.sz, by show 1 < room; decide, fun d hd => ?_⟩, h.hk, h.top, h.ctx, h.sig, fun d hd => ?_⟩
    · obtain rfl : d = mNat := by simpa using hd
      exact ⟨may_room tNat_may, by decide, by simp [mNat]⟩
    · obtain rfl : d = mNat := by simpa using hd
      exact ⟨vle_mono (by decide) tNat_vle, by simp [mNat]⟩
  obtain ⟨h3, c3⟩ := mDecls_spec hdin
  rw [nat_decls] at c3
  have c4 := mSizes_spec [mNat] (by decide)
  have c1 : (lim C).call 17 [dDs natSig, .d (.slc []), .d (.slc []), .d (.slc [encM mNat]), .d (.slc [enc tSZ])] [] = some (.ret (dI 0), h1) := c1
  have c2 : (lim C).call 17 [dDs natSig, .d (.slc []), .d (.slc []), .d (.slc [encM mNat]), .d (.slc [enc tLSZ])] [] = some (.ret (dI 3), h2) := c2
  have c3 : (lim C).call 13 [dDs natSig, .d (.slc [encM mNat])] [] = some (.ret (.tup [dI 0, dI 0]), h3) := c3
  have c4 : (lim C).call 21 [.d (.slc [encM mNat])] [] = some (.ret (.d (.slc [.int .i64 0])), []) := c4
  rw [ev_fn 7 Try.f7 _ _ _ rfl Try.func7 rfl Try.ntmps7 rfl]
  simp -implicitDefEqProofs (disch := decide +kernel) only [go_sem, ↓reduceIte, Nat.reduceSub, Nat.reduceAdd, Nat.reduceMul, Nat.reduceBEq, Nat.reduceLT, Nat.reduceLeDiff, Nat.reduceEqDiff, reduceCtorEq, Int.reduceToNat, Int.reduceLE, Int.reduceLT, Int.reduceBEq, Int.reduceBNe, mCall, nat_spec, hz, em, e1, e3, e6, e7, c1, c2, c3, c4, cells_enc, cells_encD, cel3, (enc_eq tNat).symm, (enc_eq tSZ).symm]
  rfl
end Go.Proofs.Ytkmpfdecjmnccaa
/- The laws of layer 12: MetasBegin. -/
set_option linter.unusedSimpArgs false
set_option linter.unusedVariables false
set_option maxRecDepth 100000
namespace Go.Proofs.Ytkmpfdecjmnccaa
open Go.Proofs
theorem take_getD' {α : Type} [Inhabited α] {l : List α} {n i : Nat} (h : i < n) : (l.take n).getD i default = l.getD i default := by
  rw [List.getD_eq_getElem?_getD, List.getD_eq_getElem?_getD, List.getElem?_take_of_lt h]
theorem fstR_zero' {W : Nat → Int} : ∀ k j, (fstR W k j).2 = 0 → ∀ i, j ≤ i → i < j + k → W i = 0
  | 0, j, h => fun i h1 h2 => by omega
  | k + 1, j, h => by
    unfold fstR at h
    by_cases e : W j = 0
    · rw [if_neg (by simpa using e)] at h
      intro i h1 h2
      rcases Nat.eq_or_lt_of_le h1 with rfl | h1
      · exact e
      · exact fstR_zero' k (j + 1) h i h1 (by omega)
    · rw [if_pos e] at h; exact absurd h e
theorem sub_ok {w : Wo} {dl : List Md} {th : List Tm} (h : SubR w dl th = 0) : dl.length ≤ 40 ∧ th.length = dl.length ∧ ∀ i, i < dl.length → subW w dl th i = 0 := by
  unfold SubR at h
  by_cases h1 : (dl.length : Int) > 40
  · rw [if_pos h1] at h; cases h
  rw [if_neg h1] at h
  by_cases h2 : th.length ≠ dl.length
  · rw [if_pos h2] at h; cases h
  rw [if_neg h2] at h
  have h2 : th.length = dl.length := by omega
  exact ⟨by omega, h2, fun i hi => fstR_zero' _ _ h i (Nat.zero_le i) (by omega)⟩
theorem few_dl {sg : List Dc} {dl : List Md} {cx : List Tm} (hz : WSz ⟨sg, dl, cx⟩) (h : fewW ⟨sg, dl, cx⟩ = true) : DlOk lowK dl := by
  have hr : room = 1099511627776 := rfl
  have hin := few_in hz h
  obtain ⟨_, ⟨f1, f2⟩, _⟩ := fewW_parts h
  refine ⟨hz.ml, fun d hd => ?_⟩
  have hm := hin.metas d hd
  obtain ⟨i, hi, rfl⟩ := List.mem_iff_getElem.1 hd
  have hlt := f2 _ hd
  simp only [mdLight, Bool.and_eq_true] at hlt
  obtain ⟨l1, l2⟩ := lights_parts hlt.1
  refine ⟨⟨by omega, fun x hx => ⟨?_, hm.2 x hx⟩⟩, ?_, hm.1⟩
  · have := (light_size (l2 x hx)).1; omega
  · have := (light_size hlt.2).1; omega
theorem lights_th {l : List Tm} {s d : Int} (h : lightsB l s d = true) (hz : ∀ x ∈ l, x.size < room) : ThOk lowK l := by
  have hr : room = 1099511627776 := rfl
  obtain ⟨h1, h2⟩ := lights_parts h
  exact ⟨by decide, by decide, by omega, fun x hx => ⟨hz x hx, light_vle (h2 x hx)⟩⟩
theorem DlOk.take {K : Int} {dl : List Md} (h : DlOk K dl) (k : Nat) : DlOk K (dl.take k) :=
  ⟨by have := h.len; simp; omega, fun d hd => h.all d (List.mem_of_mem_take hd)⟩
end Go.Proofs.Ytkmpfdecjmnccaa
