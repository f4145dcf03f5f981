/- The package world: first, Sig, Ctx, Schema. -/
import Derived.Test.YtbcoacljjhbonaaB3
set_option linter.unusedSimpArgs false
set_option linter.unusedVariables false
set_option maxRecDepth 100000
namespace Go.Proofs.Ytbcoacljjhbonaa
open Go.Proofs
/-- The first one of a list that is wrong, from the i-th on. -/
def fstR (W : Nat → Int) : Nat → Nat → Int × Int
  | 0, _ => (0, 0)
  | k + 1, i => if W i ≠ 0 then ((i : Int), W i) else fstR W k (i + 1)
def firstR (W : Nat → Int) (n : Nat) : Int × Int := if (n : Int) > 40 then (0, 4) else fstR W n 0
/-- A function that tells what is wrong with each of a list, as long as nothing was. -/
def DoesW (g : Nat) (caps : List AV) (h : List HO) (X : List Dv) (W : Nat → Int) : Prop :=
  ∀ i x, X[i]? = some x → (∀ j, j < i → W j = 0) → ∀ (locs : List (Option (List AV))) (toks : List (Option Nat)), mCall C (lim C) g (dI i :: .d x :: caps) { locs := locs, heap := h, toks := toks } = some (.v (dI (W i)), { locs := locs, heap := h, toks := toks })
def fi_out (X : AV) (n : Nat) (g : Nat) (caps : List AV) (h : List HO) (r : Int × Int) : Ex × St :=
  if r.2 = 0 then (.exit 0, mk 28 [(1, .fn g [] caps), (12, X), (13, dI n), (14, dI n), (15, dB false)] [] h []) else (.ret, mk 28 [(4, dI r.1), (5, dI r.2)] [] h [])
theorem fi_err (X : AV) (n : Nat) (g : Nat) (caps : List AV) (h : List HO) (i e : Int) (he : e ≠ 0) : fi_out X n g caps h (i, e) = (.ret, mk 28 [(4, dI i), (5, dI e)] [] h []) := if_neg he
theorem fstR_zero (W : Nat → Int) : ∀ k i, (fstR W k i).2 = 0 → fstR W k i = (0, 0)
  | 0, i, _ => rfl
  | k + 1, i, h => by
    simp only [fstR] at h ⊢
    by_cases he : W i = 0
    · rw [if_neg (by simpa using he)] at h ⊢; exact fstR_zero W k (i + 1) h
    · rw [if_pos he] at h; exact absurd h he
def fiT_S (l : List Tm) (g : Nat) (caps : List AV) (h : List HO) (i : Nat) : St := mk 28 [(1, .fn g [] caps), (12, .d (.slc (encs l))), (13, dI l.length), (14, dI i)] [] h []
theorem fiT_loop {g : Nat} {caps : List AV} {h : List HO} {l : List Tm} {W : Nat → Int} (hd : DoesW g caps h (encs l) W) (hl : l.length < room) : ∀ k i, i + k = l.length → (∀ j, j < i → W j = 0) →
    (lim C).code 31 (.loop (cf (cf (cs (cf (cs (cs (bodyOf Try.f31)))))))) (fiT_S l g caps h i) = some (fi_out (.d (.slc (encs l))) l.length g caps h (fstR W k i))
  | 0, i, hi, hp => by
    obtain rfl : i = l.length := by omega
    simp only [fstR, fi_out, if_true]
    refine loop_out' ?_ (by simp)
    simp -implicitDefEqProofs (disch := decide +kernel) only [cf, cs, bodyOf, Try.f31, Option.getD_some, go_sem, ↓reduceIte, Nat.reduceSub, Nat.reduceAdd, Nat.reduceMul, Nat.reduceBEq, Nat.reduceLT, Nat.reduceLeDiff, Nat.reduceEqDiff, reduceCtorEq, Int.reduceToNat, Int.reduceLE, Int.reduceLT, Int.reduceBEq, Int.reduceBNe, fiT_S, lt_false (Nat.le_refl l.length)]
  | k + 1, i, hi, hp => by
    have hr : room = 1099511627776 := rfl
    have hlt : i < l.length := by omega
    have hc := hd i _ (by rw [encs_get, getD_get hlt]; rfl) hp
    simp only [fstR]
    by_cases he : W i = 0
    · rw [if_neg (by simpa using he)]
      rw [he] at hc
      have h00 : ((0 : Int) != 0) = false := rfl
      refine (loop_nor' (σ' := fiT_S l g caps h (i + 1)) ?_).trans (fiT_loop hd hl k (i + 1) (by omega) fun j hj => ?_)
      · simp -implicitDefEqProofs (disch := decide +kernel) only [cf, cs, bodyOf, Try.f31, Option.getD_some, go_sem, ↓reduceIte, Nat.reduceSub, Nat.reduceAdd, Nat.reduceMul, Nat.reduceBEq, Nat.reduceLT, Nat.reduceLeDiff, Nat.reduceEqDiff, reduceCtorEq, Int.reduceToNat, Int.reduceLE, Int.reduceLT, Int.reduceBEq, Int.reduceBNe, fiT_S, lt_true hlt, getD_get hlt, hc, h00, cells_enc, cel3, wrap_succ (n := i) (by omega)]
      · rcases Nat.lt_or_ge j i with h3 | h3
        · exact hp j h3
        · obtain rfl : j = i := by omega
          exact he
    · rw [if_pos he, fi_err _ _ _ _ _ _ _ he]
      have he' : (W i != 0) = true := by simpa using he
      refine loop_out' ?_ (by simp)
      simp -implicitDefEqProofs (disch := decide +kernel) only [cf, cs, bodyOf, Try.f31, Option.getD_some, go_sem, ↓reduceIte, Nat.reduceSub, Nat.reduceAdd, Nat.reduceMul, Nat.reduceBEq, Nat.reduceLT, Nat.reduceLeDiff, Nat.reduceEqDiff, reduceCtorEq, Int.reduceToNat, Int.reduceLE, Int.reduceLT, Int.reduceBEq, Int.reduceBNe, fiT_S, lt_true hlt, getD_get hlt, hc, he', cells_enc, cel3]
theorem fstT_spec {g : Nat} {caps : List AV} {h : List HO} {l : List Tm} {W : Nat → Int} (hd : DoesW g caps h (encs l) W) (hl : l.length < room) (hc1 : okL caps = true) (hc2 : eraseL caps = caps) :
    (lim C).call 31 [.d (.slc (encs l)), .fn g [] caps] h = some (.ret (.tup [dI (firstR W l.length).1, dI (firstR W l.length).2]), h) := by
  unfold firstR
  rw [ev_fn 31 Try.f31 _ _ _ rfl Try.func31 rfl Try.ntmps31 rfl]
  cases k1 : decide ((l.length : Int) > 40)
  · rw [if_neg (by simpa using k1)]
    have hloop := fiT_loop hd hl l.length 0 (by omega) (fun j hj => by omega)
    have hz : (fstR W l.length 0).2 = 0 → fstR W l.length 0 = (0, 0) := fstR_zero W l.length 0
    generalize fstR W l.length 0 = r at hloop hz ⊢
    obtain ⟨i, e⟩ := r
    simp -implicitDefEqProofs (disch := decide +kernel) only [go_sem, ↓reduceIte, Nat.reduceSub, Nat.reduceAdd, Nat.reduceMul, Nat.reduceBEq, Nat.reduceLT, Nat.reduceLeDiff, Nat.reduceEqDiff, reduceCtorEq, Int.reduceToNat, Int.reduceLE, Int.reduceLT, Int.reduceBEq, Int.reduceBNe, hc1, hc2, k1]
    rw [loop_at hloop ?hb ?hs]
    case hb => rfl
    case hs => rfl
    by_cases he : e = 0
    · subst he
      obtain rfl : i = 0 := congrArg Prod.fst (hz rfl)
      simp only [fi_out, if_true]
      simp -implicitDefEqProofs (disch := decide +kernel) only [go_sem, ↓reduceIte, Nat.reduceSub, Nat.reduceAdd, Nat.reduceMul, Nat.reduceBEq, Nat.reduceLT, Nat.reduceLeDiff, Nat.reduceEqDiff, reduceCtorEq, Int.reduceToNat, Int.reduceLE, Int.reduceLT, Int.reduceBEq, Int.reduceBNe]
    · rw [fi_err _ _ _ _ _ _ _ he]
      simp -implicitDefEqProofs (disch := decide +kernel) only [go_sem, ↓reduceIte, Nat.reduceSub, Nat.reduceAdd, Nat.reduceMul, Nat.reduceBEq, Nat.reduceLT, Nat.reduceLeDiff, Nat.reduceEqDiff, reduceCtorEq, Int.reduceToNat, Int.reduceLE, Int.reduceLT, Int.reduceBEq, Int.reduceBNe]
  · rw [if_pos (by simpa using k1)]
    simp -implicitDefEqProofs (disch := decide +kernel) only [go_sem, ↓reduceIte, Nat.reduceSub, Nat.reduceAdd, Nat.reduceMul, Nat.reduceBEq, Nat.reduceLT, Nat.reduceLeDiff, Nat.reduceEqDiff, reduceCtorEq, Int.reduceToNat, Int.reduceLE, Int.reduceLT, Int.reduceBEq, Int.reduceBNe, hc1, hc2, k1]
def fiD_S (l : List Dc) (g : Nat) (caps : List AV) (h : List HO) (i : Nat) : St := mk 28 [(1, .fn g [] caps), (12, .d (.slc (encDs l))), (13, dI l.length), (14, dI i)] [] h []
theorem fiD_loop {g : Nat} {caps : List AV} {h : List HO} {l : List Dc} {W : Nat → Int} (hd : DoesW g caps h (encDs l) W) (hl : l.length < room) : ∀ k i, i + k = l.length → (∀ j, j < i → W j = 0) →
    (lim C).code 25 (.loop (cf (cf (cs (cf (cs (cs (bodyOf Try.f25)))))))) (fiD_S l g caps h i) = some (fi_out (.d (.slc (encDs l))) l.length g caps h (fstR W k i))
  | 0, i, hi, hp => by
    obtain rfl : i = l.length := by omega
    simp only [fstR, fi_out, if_true]
    refine loop_out' ?_ (by simp)
    simp -implicitDefEqProofs (disch := decide +kernel) only [cf, cs, bodyOf, Try.f25, Option.getD_some, go_sem, ↓reduceIte, Nat.reduceSub, Nat.reduceAdd, Nat.reduceMul, Nat.reduceBEq, Nat.reduceLT, Nat.reduceLeDiff, Nat.reduceEqDiff, reduceCtorEq, Int.reduceToNat, Int.reduceLE, Int.reduceLT, Int.reduceBEq, Int.reduceBNe, fiD_S, lt_false (Nat.le_refl l.length)]
  | k + 1, i, hi, hp => by
    have hr : room = 1099511627776 := rfl
    have hlt : i < l.length := by omega
    have hc := hd i _ (by rw [encDs_get, dat_get hlt]; rfl) hp
    simp only [fstR]
    by_cases he : W i = 0
    · rw [if_neg (by simpa using he)]
      rw [he] at hc
      have h00 : ((0 : Int) != 0) = false := rfl
      refine (loop_nor' (σ' := fiD_S l g caps h (i + 1)) ?_).trans (fiD_loop hd hl k (i + 1) (by omega) fun j hj => ?_)
      · simp -implicitDefEqProofs (disch := decide +kernel) only [cf, cs, bodyOf, Try.f25, Option.getD_some, go_sem, ↓reduceIte, Nat.reduceSub, Nat.reduceAdd, Nat.reduceMul, Nat.reduceBEq, Nat.reduceLT, Nat.reduceLeDiff, Nat.reduceEqDiff, reduceCtorEq, Int.reduceToNat, Int.reduceLE, Int.reduceLT, Int.reduceBEq, Int.reduceBNe, fiD_S, lt_true hlt, dat_get hlt, hc, h00, cells_encD, wrap_succ (n := i) (by omega)]
      · rcases Nat.lt_or_ge j i with h3 | h3
        · exact hp j h3
        · obtain rfl : j = i := by omega
          exact he
    · rw [if_pos he, fi_err _ _ _ _ _ _ _ he]
      have he' : (W i != 0) = true := by simpa using he
      refine loop_out' ?_ (by simp)
      simp -implicitDefEqProofs (disch := decide +kernel) only [cf, cs, bodyOf, Try.f25, Option.getD_some, go_sem, ↓reduceIte, Nat.reduceSub, Nat.reduceAdd, Nat.reduceMul, Nat.reduceBEq, Nat.reduceLT, Nat.reduceLeDiff, Nat.reduceEqDiff, reduceCtorEq, Int.reduceToNat, Int.reduceLE, Int.reduceLT, Int.reduceBEq, Int.reduceBNe, fiD_S, lt_true hlt, dat_get hlt, hc, he', cells_encD]
theorem fstD_spec {g : Nat} {caps : List AV} {h : List HO} {l : List Dc} {W : Nat → Int} (hd : DoesW g caps h (encDs l) W) (hl : l.length < room) (hc1 : okL caps = true) (hc2 : eraseL caps = caps) :
    (lim C).call 25 [.d (.slc (encDs l)), .fn g [] caps] h = some (.ret (.tup [dI (firstR W l.length).1, dI (firstR W l.length).2]), h) := by
  unfold firstR
  rw [ev_fn 25 Try.f25 _ _ _ rfl Try.func25 rfl Try.ntmps25 rfl]
  cases k1 : decide ((l.length : Int) > 40)
  · rw [if_neg (by simpa using k1)]
    have hloop := fiD_loop hd hl l.length 0 (by omega) (fun j hj => by omega)
    have hz : (fstR W l.length 0).2 = 0 → fstR W l.length 0 = (0, 0) := fstR_zero W l.length 0
    generalize fstR W l.length 0 = r at hloop hz ⊢
    obtain ⟨i, e⟩ := r
    simp -implicitDefEqProofs (disch := decide +kernel) only [go_sem, ↓reduceIte, Nat.reduceSub, Nat.reduceAdd, Nat.reduceMul, Nat.reduceBEq, Nat.reduceLT, Nat.reduceLeDiff, Nat.reduceEqDiff, reduceCtorEq, Int.reduceToNat, Int.reduceLE, Int.reduceLT, Int.reduceBEq, Int.reduceBNe, hc1, hc2, k1]
    rw [loop_at hloop ?hb ?hs]
    case hb => rfl
    case hs => rfl
    by_cases he : e = 0
    · subst he
      obtain rfl : i = 0 := congrArg Prod.fst (hz rfl)
      simp only [fi_out, if_true]
      simp -implicitDefEqProofs (disch := decide +kernel) only [go_sem, ↓reduceIte, Nat.reduceSub, Nat.reduceAdd, Nat.reduceMul, Nat.reduceBEq, Nat.reduceLT, Nat.reduceLeDiff, Nat.reduceEqDiff, reduceCtorEq, Int.reduceToNat, Int.reduceLE, Int.reduceLT, Int.reduceBEq, Int.reduceBNe]
    · rw [fi_err _ _ _ _ _ _ _ he]
      simp -implicitDefEqProofs (disch := decide +kernel) only [go_sem, ↓reduceIte, Nat.reduceSub, Nat.reduceAdd, Nat.reduceMul, Nat.reduceBEq, Nat.reduceLT, Nat.reduceLeDiff, Nat.reduceEqDiff, reduceCtorEq, Int.reduceToNat, Int.reduceLE, Int.reduceLT, Int.reduceBEq, Int.reduceBNe]
  · rw [if_pos (by simpa using k1)]
    simp -implicitDefEqProofs (disch := decide +kernel) only [go_sem, ↓reduceIte, Nat.reduceSub, Nat.reduceAdd, Nat.reduceMul, Nat.reduceBEq, Nat.reduceLT, Nat.reduceLeDiff, Nat.reduceEqDiff, reduceCtorEq, Int.reduceToNat, Int.reduceLE, Int.reduceLT, Int.reduceBEq, Int.reduceBNe, hc1, hc2, k1]
/-- What is wrong with the i-th declaration, over those ahead of it. -/
def sigW (sg : List Dc) (i : Nat) : Int := if isKind (Dcs.at sg i).t then KindR (Wo.wd ⟨sg.take i, [], []⟩) [] (Dcs.at sg i).t else TypR (Wo.wd ⟨sg.take i, [], []⟩) [] (Dcs.at sg i).t
theorem sigW_B {sg : List Dc} {i : Nat} (h : sigW sg i = 0) : sigB sg i = true := by
  unfold sigW at h
  unfold sigB
  rw [Bool.or_eq_true, beq_iff_eq, beq_iff_eq]
  split at h
  · exact .inr h
  · exact .inl h
def SigR (sg : List Dc) : Int × Int := firstR (sigW sg) sg.length
theorem wsig1_spec {sg : List Dc} (hw : WSz ⟨sg, [], []⟩) {i : Nat} (hi : i < sg.length) (hp : ∀ j, j < i → sigW sg j = 0) :
    (lim C).call 26 [dI i, dDc (Dcs.at sg i), .href 0 0] [.var 0 [dDs sg]] = some (.ret (dI (sigW sg i)), [.var 0 [dDs sg]]) := by
  have hr : room = 1099511627776 := rfl
  have hin := sig_in hw (Nat.le_of_lt hi) (fun j hj => sigW_B (hp j hj))
  have zt := hw.sz _ (dat_mem hi)
  obtain ⟨h1, c1⟩ := cType_spec hin (Dcs.at sg i).t zt
  obtain ⟨h2, c2⟩ := cKind_spec hin (Dcs.at sg i).t zt
  have c1 : (lim C).call 29 [.d (.slc (encDs (sg.take i))), .d (.slc []), .d (.slc []), dT (Dcs.at sg i).t] [] = some (.ret (dI (TypR (Wo.wd ⟨sg.take i, [], []⟩) [] (Dcs.at sg i).t)), h1) := c1
  have c2 : (lim C).call 28 [.d (.slc (encDs (sg.take i))), .d (.slc []), .d (.slc []), dT (Dcs.at sg i).t] [] = some (.ret (dI (KindR (Wo.wd ⟨sg.take i, [], []⟩) [] (Dcs.at sg i).t)), h2) := c2
  rw [encDs_take] at c1 c2
  have hle : i ≤ sg.length := by omega
  have hk := skind_spec (Dcs.at sg i).t
  have hk' : isKind (Dcs.at sg i).t = ((lastOf (Dcs.at sg i).t).kind == 0) := rfl
  unfold sigW
  rw [hk']
  rw [ev_fn 26 Try.f26 _ _ _ rfl Try.func26 rfl Try.ntmps26 rfl]
  cases k1 : ((lastOf (Dcs.at sg i).t).kind == 0)
  · rw [k1] at hk
    simp -implicitDefEqProofs (disch := decide +kernel) only [go_sem, ↓reduceIte, Nat.reduceSub, Nat.reduceAdd, Nat.reduceMul, Nat.reduceBEq, Nat.reduceLT, Nat.reduceLeDiff, Nat.reduceEqDiff, reduceCtorEq, Int.reduceToNat, Int.reduceLE, Int.reduceLT, Int.reduceBEq, Int.reduceBNe, mCall, hk, c1, Nat.zero_le, hle, encDs_all, cells_encD, (enc_eq (Dcs.at sg i).t).symm]
  · rw [k1] at hk
    simp -implicitDefEqProofs (disch := decide +kernel) only [go_sem, ↓reduceIte, Nat.reduceSub, Nat.reduceAdd, Nat.reduceMul, Nat.reduceBEq, Nat.reduceLT, Nat.reduceLeDiff, Nat.reduceEqDiff, reduceCtorEq, Int.reduceToNat, Int.reduceLE, Int.reduceLT, Int.reduceBEq, Int.reduceBNe, mCall, hk, c2, Nat.zero_le, hle, encDs_all, cells_encD, (enc_eq (Dcs.at sg i).t).symm]
theorem wSig_spec (sg : List Dc) (hw : WSz ⟨sg, [], []⟩) : ∃ h, (lim C).call 13 [dDs sg] [] = some (.ret (.tup [dI (SigR sg).1, dI (SigR sg).2]), h) := by
  have hd : DoesW 26 [.href 0 0] [.var 0 [dDs sg]] (encDs sg) (sigW sg) := by
    intro i x hx hp locs toks
    rw [encDs_get] at hx
    obtain ⟨d, hdd, rfl⟩ := Option.map_eq_some_iff.1 hx
    obtain ⟨hlt, hat⟩ := getD_of_get hdd
    have hat : Dcs.at sg i = d := hat
    have hc := wsig1_spec hw hlt hp
    rw [hat] at hc
    simp only [mCall, callsPure, pureL, AV.pure, okL, AV.okA, C_thr, eraseL, AV.erase, Bool.and_true, Bool.true_and, Bool.and_false, Bool.false_and, Bool.false_eq_true, if_false, if_true, Option.bind_some, heapRes_ret, hc]
  have hf := fstD_spec hd hw.sl rfl rfl
  refine ⟨[.var 0 [dDs sg]], ?_⟩
  unfold SigR
  generalize firstR (sigW sg) sg.length = r at hf ⊢
  rw [ev_fn 13 Try.f13 _ _ _ rfl Try.func13 rfl Try.ntmps13 rfl]
  simp -implicitDefEqProofs (disch := decide +kernel) only [go_sem, ↓reduceIte, Nat.reduceSub, Nat.reduceAdd, Nat.reduceMul, Nat.reduceBEq, Nat.reduceLT, Nat.reduceLeDiff, Nat.reduceEqDiff, reduceCtorEq, Int.reduceToNat, Int.reduceLE, Int.reduceLT, Int.reduceBEq, Int.reduceBNe, mCall, hf]
/-- What is wrong with the i-th entry, behind those ahead of it. -/
def ctxW (w : Wd) (ar cx : List Tm) (i : Nat) : Int := TypR w (ar ++ cx.take i) (cx.getD i default)
def CtxWR (w : Wd) (ar cx : List Tm) : Int := (firstR (ctxW w ar cx) cx.length).2
theorem typ0_vle {w : Wd} {c : List Tm} {x : Tm} (h : TypR w c x = 0) : mayB x = true ∧ vleB 2097152 x = true := by
  obtain ⟨h1, h2⟩ := TypR_ok h
  have hm := mayW_of h1 _ (List.mem_singleton.2 rfl)
  have hs := typ_scoped _ _ _ (may_parts hm).1 h2
  have hz := (may_parts hm).2.1
  unfold mayW at h1
  simp only [Bool.and_eq_true, Bool.not_eq_true', decide_eq_false_iff_not] at h1
  have hl := h1.1.1.1.1
  exact ⟨hm, vle_mono (by omega) (scoped_vle _ _ _ hs)⟩
theorem ctx_in2 {K : Int} {sg : List Dc} {ms : List Md} {ar cx : List Tm} (hin : WIn K ⟨sg, ms, ar⟩) (hcz : ∀ x ∈ cx, x.size < room) (hcl : ar.length + cx.length < room) {i : Nat} (hi : i ≤ cx.length) (hp : ∀ j, j < i → ctxW (Wo.wd ⟨sg, ms, ar⟩) ar cx j = 0) : WIn K ⟨sg, ms, ar ++ cx.take i⟩ := by
  have hk := hin.hk
  refine hin.cons (c := ar ++ cx.take i) (fun x hx => ?_) (by simp; omega)
  rcases List.mem_append.1 hx with hx | hx
  · exact ⟨hin.sz.cz x hx, hin.ctx x hx⟩
  · refine ⟨hcz x (List.mem_of_mem_take hx), ?_⟩
    obtain ⟨j, hj, rfl⟩ := mem_takeT hi hx
    exact vle_mono hk (typ0_vle (hp j hj)).2
def cx_H (sg : List Dc) (ms : List Md) (ar cx : List Tm) : List HO := [.var 0 [dDs sg], .var 0 [dMs ms], .var 0 [dL ar], .var 0 [dL (ar ++ cx)]]
theorem wctx1_spec {K : Int} {sg : List Dc} {ms : List Md} {ar cx : List Tm} (hin : WIn K ⟨sg, ms, ar⟩) (hcz : ∀ x ∈ cx, x.size < room) (hcl : ar.length + cx.length < room) {i : Nat} (hi : i < cx.length) (hp : ∀ j, j < i → ctxW (Wo.wd ⟨sg, ms, ar⟩) ar cx j = 0) :
    (lim C).call 32 [dI i, dT (cx.getD i default), .href 0 0, .href 1 0, .href 3 0, .href 2 0] (cx_H sg ms ar cx) = some (.ret (dI (ctxW (Wo.wd ⟨sg, ms, ar⟩) ar cx i)), cx_H sg ms ar cx) := by
  have hr : room = 1099511627776 := rfl
  have hin2 := ctx_in2 hin hcz hcl (Nat.le_of_lt hi) hp
  obtain ⟨h1, c1⟩ := cType_spec hin2 (cx.getD i default) (hcz _ (getD_mem (a := cx) hi))
  have htk : (encs (ar ++ cx)).take (ar.length + i) = encs (ar ++ cx.take i) := by
    rw [← encs_take, List.take_append]
    congr 2
    · rw [List.take_of_length_le (by omega)]
    · congr 1; omega
  have c1 : (lim C).call 29 [dDs sg, dMs ms, .d (.slc (encs (ar ++ cx.take i))), dT (cx.getD i default)] [] = some (.ret (dI (TypR (Wo.wd ⟨sg, ms, ar⟩) (ar ++ cx.take i) (cx.getD i default))), h1) := c1
  rw [← htk] at c1
  have hw1 : IntKind.wrap .i64 ((ar.length : Int) + i) = ((ar.length + i : Nat) : Int) := by rw [wrap_ok (by omega) (by omega)]; omega
  have hle : ar.length + i ≤ (ar ++ cx).length := by simp; omega
  have h0 : (0 : Int) ≤ ((ar.length + i : Nat) : Int) := by omega
  have hT : (((ar.length + i : Nat) : Int)).toNat = ar.length + i := by omega
  unfold ctxW
  simp only [cx_H]
  rw [ev_fn 32 Try.f32 _ _ _ rfl Try.func32 rfl Try.ntmps32 rfl]
  simp -implicitDefEqProofs (disch := decide +kernel) only [go_sem, ↓reduceIte, Nat.reduceSub, Nat.reduceAdd, Nat.reduceMul, Nat.reduceBEq, Nat.reduceLT, Nat.reduceLeDiff, Nat.reduceEqDiff, reduceCtorEq, Int.reduceToNat, Int.reduceLE, Int.reduceLT, Int.reduceBEq, Int.reduceBNe, mCall, cx_H, hw1, hle, h0, hT, encs_all, Nat.zero_le, c1, cells_enc, cel3, (enc_eq (cx.getD i default)).symm]
theorem wCtx_spec {K : Int} {sg : List Dc} {ms : List Md} {ar : List Tm} (hin : WIn K ⟨sg, ms, ar⟩) (cx : List Tm) (hcz : ∀ x ∈ cx, x.size < room) (hcl : ar.length + cx.length < room) : ∃ h, (lim C).call 14 [dDs sg, dMs ms, dL ar, dL cx] [] = some (.ret (dI (CtxWR (Wo.wd ⟨sg, ms, ar⟩) ar cx)), h) := by
  have hd : DoesW 32 [.href 0 0, .href 1 0, .href 3 0, .href 2 0] (cx_H sg ms ar cx) (encs cx) (ctxW (Wo.wd ⟨sg, ms, ar⟩) ar cx) := by
    intro i x hx hp locs toks
    rw [encs_get] at hx
    obtain ⟨d, hdd, rfl⟩ := Option.map_eq_some_iff.1 hx
    obtain ⟨hlt, hat⟩ := getD_of_get hdd
    have hc := wctx1_spec hin hcz hcl hlt hp
    rw [hat] at hc
    simp only [mCall, callsPure, pureL, AV.pure, okL, AV.okA, C_thr, eraseL, AV.erase, Bool.and_true, Bool.true_and, Bool.and_false, Bool.false_and, Bool.false_eq_true, if_false, if_true, Option.bind_some, heapRes_ret, hc]
  have hf := fstT_spec hd (by omega) rfl rfl
  have hcc := concat_spec ar cx hcl
  refine ⟨cx_H sg ms ar cx, ?_⟩
  unfold CtxWR
  generalize firstR (ctxW (Wo.wd ⟨sg, ms, ar⟩) ar cx) cx.length = r at hf ⊢
  have hcx : Dv.slc [.slc (encs ar), .slc (encs cx)] = .slc [.slc (encs ar), .slc (encs cx)] := rfl
  simp only [cx_H] at hf ⊢
  rw [ev_fn 14 Try.f14 _ _ _ rfl Try.func14 rfl Try.ntmps14 rfl]
  simp -implicitDefEqProofs (disch := decide +kernel) only [go_sem, ↓reduceIte, Nat.reduceSub, Nat.reduceAdd, Nat.reduceMul, Nat.reduceBEq, Nat.reduceLT, Nat.reduceLeDiff, Nat.reduceEqDiff, reduceCtorEq, Int.reduceToNat, Int.reduceLE, Int.reduceLT, Int.reduceBEq, Int.reduceBNe, mCall, hf, hcc]
/-- What is wrong with the types that entries may have. -/
def schW (w : Wd) (l : List Tm) (i : Nat) : Int := if (l.getD i default).kind ≠ 2 then 1 else TypR w [] (l.getD i default)
def SchemaR (w : Wd) (l : List Tm) : Int := (firstR (schW w l) l.length).2
theorem wsch1_spec {K : Int} {sg : List Dc} (hin : WIn K ⟨sg, [], []⟩) {x : Tm} (hz : x.size < room) (i : Nat) :
    (lim C).call 36 [dI i, dT x, .href 0 0] [.var 0 [dDs sg]] = some (.ret (dI (if x.kind ≠ 2 then 1 else TypR (Wo.wd ⟨sg, [], []⟩) [] x)), [.var 0 [dDs sg]]) := by
  obtain ⟨h1, c1⟩ := cType_spec hin x hz
  have c1 : (lim C).call 29 [dDs sg, .d (.slc []), .d (.slc []), dT x] [] = some (.ret (dI (TypR (Wo.wd ⟨sg, [], []⟩) [] x)), h1) := c1
  rw [ev_fn 36 Try.f36 _ _ _ rfl Try.func36 rfl Try.ntmps36 rfl]
  by_cases hk : x.kind = 2
  · have hex := (enc_eq x).symm
    rw [hk] at hex
    rw [if_neg (by simpa using hk)]
    simp -implicitDefEqProofs (disch := decide +kernel) only [go_sem, ↓reduceIte, Nat.reduceSub, Nat.reduceAdd, Nat.reduceMul, Nat.reduceBEq, Nat.reduceLT, Nat.reduceLeDiff, Nat.reduceEqDiff, reduceCtorEq, Int.reduceToNat, Int.reduceLE, Int.reduceLT, Int.reduceBEq, Int.reduceBNe, mCall, hk, c1, cells_enc, cel3, hex]
  · have hk' : (x.kind != 2) = true := by simpa using hk
    rw [if_pos hk]
    simp -implicitDefEqProofs (disch := decide +kernel) only [go_sem, ↓reduceIte, Nat.reduceSub, Nat.reduceAdd, Nat.reduceMul, Nat.reduceBEq, Nat.reduceLT, Nat.reduceLeDiff, Nat.reduceEqDiff, reduceCtorEq, Int.reduceToNat, Int.reduceLE, Int.reduceLT, Int.reduceBEq, Int.reduceBNe, mCall, hk', cells_enc, cel3]
theorem wSchema_spec {K : Int} {sg : List Dc} (hin : WIn K ⟨sg, [], []⟩) (l : List Tm) (hz : ∀ x ∈ l, x.size < room) (hl : l.length < room) : ∃ h, (lim C).call 16 [dDs sg, dL l] [] = some (.ret (dI (SchemaR (Wo.wd ⟨sg, [], []⟩) l)), h) := by
  have hd : DoesW 36 [.href 0 0] [.var 0 [dDs sg]] (encs l) (schW (Wo.wd ⟨sg, [], []⟩) l) := by
    intro i x hx hp locs toks
    rw [encs_get] at hx
    obtain ⟨d, hdd, rfl⟩ := Option.map_eq_some_iff.1 hx
    obtain ⟨hlt, hat⟩ := getD_of_get hdd
    have hc := wsch1_spec hin (x := d) (hz _ (List.mem_of_getElem? hdd)) i
    have hs : schW (Wo.wd ⟨sg, [], []⟩) l i = if d.kind ≠ 2 then 1 else TypR (Wo.wd ⟨sg, [], []⟩) [] d := by unfold schW; rw [hat]
    rw [hs]
    simp only [mCall, callsPure, pureL, AV.pure, okL, AV.okA, C_thr, eraseL, AV.erase, Bool.and_true, Bool.true_and, Bool.and_false, Bool.false_and, Bool.false_eq_true, if_false, if_true, Option.bind_some, heapRes_ret, hc]
  have hf := fstT_spec hd hl rfl rfl
  refine ⟨[.var 0 [dDs sg]], ?_⟩
  unfold SchemaR
  generalize firstR (schW (Wo.wd ⟨sg, [], []⟩) l) l.length = r at hf ⊢
  rw [ev_fn 16 Try.f16 _ _ _ rfl Try.func16 rfl Try.ntmps16 rfl]
  simp -implicitDefEqProofs (disch := decide +kernel) only [go_sem, ↓reduceIte, Nat.reduceSub, Nat.reduceAdd, Nat.reduceMul, Nat.reduceBEq, Nat.reduceLT, Nat.reduceLeDiff, Nat.reduceEqDiff, reduceCtorEq, Int.reduceToNat, Int.reduceLE, Int.reduceLT, Int.reduceBEq, Int.reduceBNe, mCall, hf]
end Go.Proofs.Ytbcoacljjhbonaa
/- The package world: Conforms. -/
set_option linter.unusedSimpArgs false
set_option linter.unusedVariables false
set_option maxRecDepth 100000
namespace Go.Proofs.Ytbcoacljjhbonaa
open Go.Proofs
/-- A function that answers for each of a list; it leaves more shared variables each time. -/
def AsksH (g : Nat) (caps : List AV) (H : Nat → List HO) (X : List Dv) (p : Nat → Bool) : Prop :=
  ∀ i x, X[i]? = some x → ∀ (locs : List (Option (List AV))) (toks : List (Option Nat)), mCall C (lim C) g (.d x :: caps) { locs := locs, heap := H i, toks := toks } = some (.v (dB (!p i)), { locs := locs, heap := H (i + 1), toks := toks })
def itH_S (l : List Tm) (g : Nat) (caps : List AV) (H : Nat → List HO) (i : Nat) : St := mk 19 [(0, dL l), (1, .fn g [] caps), (7, dI l.length), (8, dI i)] [] (H i) []
theorem itH_spec {g : Nat} {caps : List AV} {H : Nat → List HO} {l : List Tm} {p : Nat → Bool} (hd : AsksH g caps H (encs l) p) (hl : l.length < room) (hc1 : okL caps = true) (hc2 : eraseL caps = caps) :
    ∃ (i : Int) (n : Nat), (lim C).call 39 [dL l, .fn g [] caps] (H 0) = some (.ret (dI i), H n) ∧ decide (i ≥ 0) = !allB l.length p := by
  have hr : room = 1099511627776 := rfl
  have hstep : ∀ i, i < l.length → p i = true → (lim C).code 39 (cf (.loop (cf (cf (cs (cf (cs (bodyOf Try.f39)))))))) (itH_S l g caps H i) = some (.nor, itH_S l g caps H (i + 1)) := fun i hi hm => by
    have hc := hd i _ (by rw [encs_get, getD_get hi]; rfl)
    rw [hm] at hc
    simp -implicitDefEqProofs (disch := decide +kernel) only [cf, cs, bodyOf, Try.f39, Option.getD_some, go_sem, ↓reduceIte, Nat.reduceSub, Nat.reduceAdd, Nat.reduceMul, Nat.reduceBEq, Nat.reduceLT, Nat.reduceLeDiff, Nat.reduceEqDiff, reduceCtorEq, Int.reduceToNat, Int.reduceLE, Int.reduceLT, Int.reduceBEq, Int.reduceBNe, itH_S, lt_true hi, getD_get hi, hc, cells_enc, cel3, wrap_succ (n := i) (by omega)]
  cases hall : allB l.length p
  · obtain ⟨j, hj, hpj, hb⟩ := allB_first _ _ hall
    refine ⟨j, j + 1, ?_, by simp⟩
    have hc := hd j _ (by rw [encs_get, getD_get hj]; rfl)
    rw [hpj] at hc
    have hloop : (lim C).code 39 (.loop (cf (cf (cs (cf (cs (bodyOf Try.f39))))))) (itH_S l g caps H 0) = some (.ret, mk 19 [(4, dI j)] [] (H (j + 1)) []) := by
      refine loop_run (itH_S l g caps H) j (fun i hi => hstep i (by omega) (hb i hi)) ?_ (by simp)
      simp -implicitDefEqProofs (disch := decide +kernel) only [cf, cs, bodyOf, Try.f39, Option.getD_some, go_sem, ↓reduceIte, Nat.reduceSub, Nat.reduceAdd, Nat.reduceMul, Nat.reduceBEq, Nat.reduceLT, Nat.reduceLeDiff, Nat.reduceEqDiff, reduceCtorEq, Int.reduceToNat, Int.reduceLE, Int.reduceLT, Int.reduceBEq, Int.reduceBNe, itH_S, lt_true hj, getD_get hj, hc, cells_enc, cel3]
    rw [ev_fn 39 Try.f39 _ _ _ rfl Try.func39 rfl Try.ntmps39 rfl]
    simp -implicitDefEqProofs (disch := decide +kernel) only [go_sem, ↓reduceIte, Nat.reduceSub, Nat.reduceAdd, Nat.reduceMul, Nat.reduceBEq, Nat.reduceLT, Nat.reduceLeDiff, Nat.reduceEqDiff, reduceCtorEq, Int.reduceToNat, Int.reduceLE, Int.reduceLT, Int.reduceBEq, Int.reduceBNe, hc1, hc2]
    rw [loop_at hloop ?hb ?hs]
    case hb => rfl
    case hs => rfl
    simp -implicitDefEqProofs (disch := decide +kernel) only [go_sem, ↓reduceIte, Nat.reduceSub, Nat.reduceAdd, Nat.reduceMul, Nat.reduceBEq, Nat.reduceLT, Nat.reduceLeDiff, Nat.reduceEqDiff, reduceCtorEq, Int.reduceToNat, Int.reduceLE, Int.reduceLT, Int.reduceBEq, Int.reduceBNe]
  · refine ⟨-1, l.length, ?_, by simp⟩
    have hloop : (lim C).code 39 (.loop (cf (cf (cs (cf (cs (bodyOf Try.f39))))))) (itH_S l g caps H 0) = some (.exit 0, mk 19 [(0, dL l), (1, .fn g [] caps), (7, dI l.length), (8, dI l.length), (9, dB false)] [] (H l.length) []) := by
      refine loop_run (itH_S l g caps H) l.length (fun i hi => hstep i hi ((allB_iff _ _).1 hall i hi)) ?_ (by simp)
      simp -implicitDefEqProofs (disch := decide +kernel) only [cf, cs, bodyOf, Try.f39, Option.getD_some, go_sem, ↓reduceIte, Nat.reduceSub, Nat.reduceAdd, Nat.reduceMul, Nat.reduceBEq, Nat.reduceLT, Nat.reduceLeDiff, Nat.reduceEqDiff, reduceCtorEq, Int.reduceToNat, Int.reduceLE, Int.reduceLT, Int.reduceBEq, Int.reduceBNe, itH_S, lt_false (Nat.le_refl l.length)]
    rw [ev_fn 39 Try.f39 _ _ _ rfl Try.func39 rfl Try.ntmps39 rfl]
    simp -implicitDefEqProofs (disch := decide +kernel) only [go_sem, ↓reduceIte, Nat.reduceSub, Nat.reduceAdd, Nat.reduceMul, Nat.reduceBEq, Nat.reduceLT, Nat.reduceLeDiff, Nat.reduceEqDiff, reduceCtorEq, Int.reduceToNat, Int.reduceLE, Int.reduceLT, Int.reduceBEq, Int.reduceBNe, hc1, hc2]
    rw [loop_at hloop ?hb ?hs]
    case hb => rfl
    case hs => rfl
    simp -implicitDefEqProofs (disch := decide +kernel) only [go_sem, ↓reduceIte, Nat.reduceSub, Nat.reduceAdd, Nat.reduceMul, Nat.reduceBEq, Nat.reduceLT, Nat.reduceLeDiff, Nat.reduceEqDiff, reduceCtorEq, Int.reduceToNat, Int.reduceLE, Int.reduceLT, Int.reduceBEq, Int.reduceBNe]
theorem ctH_spec {g : Nat} {caps : List AV} {H : Nat → List HO} {l : List Tm} {p : Nat → Bool} (hd : AsksH g caps H (encs l) p) (hl : l.length < room) (hc1 : okL caps = true) (hc2 : eraseL caps = caps) (hc3 : pureL caps = false) :
    ∃ n, (lim C).call 21 [dL l, .fn g [] caps] (H 0) = some (.ret (dB (!allB l.length p)), H n) := by
  obtain ⟨i, n, h1, h2⟩ := itH_spec hd hl hc1 hc2
  refine ⟨n, ?_⟩
  rw [ev_fn 21 Try.f21 _ _ _ rfl Try.func21 rfl Try.ntmps21 rfl]
  simp -implicitDefEqProofs (disch := decide +kernel) only [go_sem, ↓reduceIte, Nat.reduceSub, Nat.reduceAdd, Nat.reduceMul, Nat.reduceBEq, Nat.reduceLT, Nat.reduceLeDiff, Nat.reduceEqDiff, reduceCtorEq, Int.reduceToNat, Int.reduceLE, Int.reduceLT, Int.reduceBEq, Int.reduceBNe, mCall, hc1, hc2, hc3, h1, h2]
/-- Whether one of a list is the same. -/
def hasB (sc : List Tm) (a : Tm) : Bool := !allB sc.length fun i => !sameB (sc.getD i default) a
def ConfB (sc l : List Tm) : Bool := allB l.length fun i => hasB sc (l.getD i default)
theorem conf11_spec {s a : Tm} {h : List HO} {j : Nat} (hs : s.size < room) (hj : h[j]? = some (.var 0 (cel3 a))) :
    (lim C).call 22 [dT s, .href j 0] h = some (.ret (dB (sameB s a)), h) := by
  have hsm := tsame_spec s hs a
  simp only [cel3] at hj
  rw [ev_fn 22 Try.f22 _ _ _ rfl Try.func22 rfl Try.ntmps22 rfl]
  simp -implicitDefEqProofs (disch := decide +kernel) only [go_sem, ↓reduceIte, Nat.reduceSub, Nat.reduceAdd, Nat.reduceMul, Nat.reduceBEq, Nat.reduceLT, Nat.reduceLeDiff, Nat.reduceEqDiff, reduceCtorEq, Int.reduceToNat, Int.reduceLE, Int.reduceLT, Int.reduceBEq, Int.reduceBNe, mCall, hj, hsm, cells_enc, cel3, (enc_eq s).symm, (enc_eq a).symm]
theorem conf1_spec {sc : List Tm} {a : Tm} {h : List HO} (hl : sc.length < room) (hz : ∀ x ∈ sc, x.size < room) (h0 : h[0]? = some (.var 0 [dL sc])) :
    (lim C).call 20 [dT a, .href 0 0] h = some (.ret (dB (!hasB sc a)), h ++ [.var 0 (cel3 a)]) := by
  have hlen : 0 < h.length := by
    rcases Nat.eq_zero_or_pos h.length with e | e
    · rw [List.eq_nil_of_length_eq_zero e] at h0; cases h0
    · exact e
  have h0' : (h ++ [.var 0 [dI a.kind, dI a.head, dL a.args]])[0]? = some (.var 0 [dL sc]) := by rw [List.getElem?_append_left hlen]; exact h0
  have hd : AsksE 22 [.href h.length 0] (h ++ [.var 0 (cel3 a)]) (encs sc) (fun i => !sameB (sc.getD i default) a) := by
    intro i x hx locs toks
    rw [encs_get] at hx
    obtain ⟨d, hdd, rfl⟩ := Option.map_eq_some_iff.1 hx
    obtain ⟨hlt, hat⟩ := getD_of_get hdd
    have hc := conf11_spec (s := d) (a := a) (h := h ++ [.var 0 (cel3 a)]) (j := h.length) (hz _ (List.mem_of_getElem? hdd)) (by rw [getApp0]; rfl)
    simp only [mCall, callsPure, pureL, AV.pure, okL, AV.okA, C_thr, eraseL, AV.erase, Bool.and_true, Bool.true_and, Bool.and_false, Bool.false_and, Bool.false_eq_true, if_false, if_true, Option.bind_some, heapRes_ret, hc, hat, Bool.not_not]
  have hf := ctT_spec hd hl rfl rfl rfl
  unfold hasB
  simp only [cel3] at hf ⊢
  rw [ev_fn 20 Try.f20 _ _ _ rfl Try.func20 rfl Try.ntmps20 rfl]
  simp -implicitDefEqProofs (disch := decide +kernel) only [go_sem, ↓reduceIte, Nat.reduceSub, Nat.reduceAdd, Nat.reduceMul, Nat.reduceBEq, Nat.reduceLT, Nat.reduceLeDiff, Nat.reduceEqDiff, reduceCtorEq, Int.reduceToNat, Int.reduceLE, Int.reduceLT, Int.reduceBEq, Int.reduceBNe, mCall, h0', hf, cells_enc, cel3]
def conf_H (sc l : List Tm) (i : Nat) : List HO := .var 0 [dL sc] :: (l.take i).map fun x => .var 0 (cel3 x)
theorem wConf_spec (sc l : List Tm) (h1 : sc.length < room) (z1 : ∀ x ∈ sc, x.size < room) (h2 : l.length < room) : ∃ h, (lim C).call 11 [dL sc, dL l] [] = some (.ret (dB (ConfB sc l)), h) := by
  have hd : AsksH 20 [.href 0 0] (conf_H sc l) (encs l) (fun i => hasB sc (l.getD i default)) := by
    intro i x hx locs toks
    rw [encs_get] at hx
    obtain ⟨d, hdd, rfl⟩ := Option.map_eq_some_iff.1 hx
    obtain ⟨hlt, hat⟩ := getD_of_get hdd
    have hc := conf1_spec (sc := sc) (a := d) (h := conf_H sc l i) h1 z1 rfl
    have hn : conf_H sc l i ++ [.var 0 (cel3 d)] = conf_H sc l (i + 1) := by
      unfold conf_H
      rw [List.take_add_one, hdd, List.map_append]
      rfl
    rw [hn] at hc
    simp only [mCall, callsPure, pureL, AV.pure, okL, AV.okA, C_thr, eraseL, AV.erase, Bool.and_true, Bool.true_and, Bool.and_false, Bool.false_and, Bool.false_eq_true, if_false, if_true, Option.bind_some, heapRes_ret, hc, hat]
  obtain ⟨n, hf⟩ := ctH_spec hd h2 rfl rfl rfl
  have hf : (lim C).call 21 [dL l, .fn 20 [] [.href 0 0]] [.var 0 [dL sc]] = _ := hf
  refine ⟨conf_H sc l n, ?_⟩
  unfold ConfB
  rw [ev_fn 11 Try.f11 _ _ _ rfl Try.func11 rfl Try.ntmps11 rfl]
  simp -implicitDefEqProofs (disch := decide +kernel) only [go_sem, ↓reduceIte, Nat.reduceSub, Nat.reduceAdd, Nat.reduceMul, Nat.reduceBEq, Nat.reduceLT, Nat.reduceLeDiff, Nat.reduceEqDiff, reduceCtorEq, Int.reduceToNat, Int.reduceLE, Int.reduceLT, Int.reduceBEq, Int.reduceBNe, mCall, hf, Bool.not_not]
end Go.Proofs.Ytbcoacljjhbonaa
/- Laws of layer 11: the example; in plain words. -/
set_option linter.unusedSimpArgs false
set_option linter.unusedVariables false
set_option maxRecDepth 100000
namespace Go.Proofs.Ytbcoacljjhbonaa
open Go.Proofs
theorem fst_cases (W : Nat → Int) : ∀ k i, (∀ j, i ≤ j → j < i + k → W j = 0) ∧ fstR W k i = (0, 0) ∨ ∃ j, i ≤ j ∧ j < i + k ∧ W j ≠ 0 ∧ (∀ l, i ≤ l → l < j → W l = 0) ∧ fstR W k i = ((j : Int), W j)
  | 0, i => .inl ⟨fun j h1 h2 => by omega, rfl⟩
  | k + 1, i => by
    simp only [fstR]
    by_cases h : W i = 0
    · rw [if_neg (by simpa using h)]
      rcases fst_cases W k (i + 1) with ⟨h1, h2⟩ | ⟨j, h1, h2, h3, h4, h5⟩
      · refine .inl ⟨fun j a b => ?_, h2⟩
        rcases Nat.eq_or_lt_of_le a with rfl | a
        · exact h
        · exact h1 j a (by omega)
      · refine .inr ⟨j, by omega, by omega, h3, fun l a b => ?_, h5⟩
        rcases Nat.eq_or_lt_of_le a with rfl | a
        · exact h
        · exact h4 l a b
    · rw [if_pos h]
      exact .inr ⟨i, Nat.le_refl i, by omega, h, fun l a b => by omega, rfl⟩
theorem first_cases (W : Nat → Int) {n : Nat} (hn : n ≤ 40) : (∀ j, j < n → W j = 0) ∧ firstR W n = (0, 0) ∨ ∃ j, j < n ∧ W j ≠ 0 ∧ (∀ l, l < j → W l = 0) ∧ firstR W n = ((j : Int), W j) := by
  unfold firstR
  rw [if_neg (by omega)]
  rcases fst_cases W n 0 with ⟨h1, h2⟩ | ⟨j, h1, h2, h3, h4, h5⟩
  · exact .inl ⟨fun j hj => h1 j (Nat.zero_le j) (by omega), h2⟩
  · exact .inr ⟨j, by omega, h3, fun l hl => h4 l (Nat.zero_le l) hl, h5⟩
theorem first_many (W : Nat → Int) {n : Nat} (hn : 40 < n) : firstR W n = (0, 4) := by
  unfold firstR
  rw [if_pos (by omega)]
theorem first_all {W : Nat → Int} {n : Nat} (hn : n ≤ 40) (h : ∀ j, j < n → W j = 0) : firstR W n = (0, 0) := by
  rcases first_cases W hn with ⟨_, e⟩ | ⟨j, h1, h2, _⟩
  · exact e
  · exact absurd (h j h1) h2
theorem first_ok {W : Nat → Int} {n : Nat} (h : (firstR W n).2 = 0) : n ≤ 40 ∧ ∀ j, j < n → W j = 0 := by
  have hn : n ≤ 40 := by
    rcases Nat.lt_or_ge 40 n with h1 | h1
    · rw [first_many W h1] at h; cases h
    · exact h1
  refine ⟨hn, ?_⟩
  rcases first_cases W hn with ⟨e, _⟩ | ⟨j, h1, h2, _, e⟩
  · exact e
  · rw [e] at h; exact absurd h h2
theorem wd_may {sg : List Dc} (h : ∀ d ∈ sg, mayB d.t = true) {c l : List Tm} (hc : c.length ≤ 1000) (hcm : ∀ x ∈ c, mayB x = true) (hl : ∀ x ∈ l, mayB x = true) : mayW (Wo.wd ⟨sg, [], []⟩) c l = true := by
  unfold mayW
  have h1 : decide ((c.length : Int) > 1000) = false := by simp; omega
  have h2 : maysB (Wo.wd ⟨sg, [], []⟩).sig = true := maysB_iff.2 fun x hx => by
    simp only [Wo.wd, List.mem_map] at hx
    obtain ⟨d, hd, rfl⟩ := hx
    exact h d hd
  rw [h1, maysB_iff.2 hl, maysB_iff.2 hcm, h2]
  rfl
theorem nat_typ {w : Wd} {c : List Tm} (h : 0 < w.sig.length) (h0 : w.sig.getD 0 default = zT) : typW w tNat c = 0 := by
  have hd : declW w tNat.head true = (zT, 0) := by
    have := declW_go (w := w) (h := 0) (kind := true) (by omega) (by unfold kindAt; rw [show (0 : Int).toNat = 0 from rfl, h0]; show ((lastOf zT).kind == 0) = true; rw [show lastOf zT = zT from leaf_last]; rfl)
    rw [show (0 : Int).toNat = 0 from rfl, h0] at this
    exact this
  rw [typW_fam _ rfl]
  refine famW_go (by rw [hd]) ?_ ?_
  · rw [hd]; rfl
  · rw [hd]; rfl
theorem natSig_may : ∀ d ∈ natSig, mayB d.t = true := by
  intro d hd
  simp only [natSig, List.mem_cons, List.not_mem_nil, or_false] at hd
  rcases hd with rfl | rfl | rfl
  · exact zT_may
  · exact tNat_may
  · exact tPi_may
theorem natSig_R : SigR natSig = (0, 0) := by
  refine first_all (by decide) fun j hj => ?_
  have hj : j < 3 := hj
  have hm := fun k => fun d (hd : d ∈ natSig.take k) => natSig_may d (List.mem_of_mem_take hd)
  rcases (show j = 0 ∨ j = 1 ∨ j = 2 by omega) with rfl | rfl | rfl
  · have hk : isKind (Dcs.at natSig 0).t = true := by show ((lastOf zT).kind == 0) = true; rw [show lastOf zT = zT from leaf_last]; rfl
    unfold sigW
    rw [hk, if_pos rfl]
    unfold KindR
    rw [wd_may (hm 0) (by simp) (by simp) (fun x hx => by rw [List.mem_singleton.1 hx]; exact zT_may), if_pos rfl]
    exact kindW_sort _ rfl _
  · have hk : isKind (Dcs.at natSig 1).t = false := by show ((lastOf tNat).kind == 0) = false; rw [show lastOf tNat = tNat from leaf_last]; rfl
    unfold sigW
    rw [hk, if_neg (by decide)]
    unfold TypR
    rw [wd_may (hm 1) (by simp) (by simp) (fun x hx => by rw [List.mem_singleton.1 hx]; exact tNat_may), if_pos rfl]
    exact nat_typ (by decide) rfl
  · have hk : isKind (Dcs.at natSig 2).t = false := by show ((lastOf tPi).kind == 0) = false; rw [tPi_last]; rfl
    unfold sigW
    rw [hk, if_neg (by decide)]
    unfold TypR
    rw [wd_may (hm 2) (by simp) (by simp) (fun x hx => by rw [List.mem_singleton.1 hx]; exact tPi_may), if_pos rfl, show (Dcs.at natSig 2).t = tPi from rfl, typW_pi _ rfl (by decide)]
    rw [show tPi.arg 0 = tNat from rfl, show tPi.arg 1 = tNat from rfl, nat_typ (by decide) rfl, if_neg (by decide)]
    exact nat_typ (by decide) rfl
def swSig : List Dc := [⟨⟨#[122]⟩, tNat⟩, ⟨⟨#[110, 97, 116]⟩, zT⟩]
theorem swSig_R : SigR swSig = (0, 2) := by
  have hk : isKind (Dcs.at swSig 0).t = false := by show ((lastOf tNat).kind == 0) = false; rw [show lastOf tNat = tNat from leaf_last]; rfl
  have hW : sigW swSig 0 = 2 := by
    unfold sigW
    rw [hk, if_neg (by decide)]
    unfold TypR
    rw [wd_may (sg := swSig.take 0) (by simp) (by simp) (by simp) (fun x hx => by rw [List.mem_singleton.1 hx]; exact tNat_may), if_pos rfl, show (Dcs.at swSig 0).t = tNat from rfl, typW_fam _ rfl]
    rfl
  unfold SigR firstR
  rw [if_neg (by decide)]
  show fstR (sigW swSig) (1 + 1) 0 = (0, 2)
  unfold fstR
  rw [hW, if_pos (by decide)]
  rfl
theorem dsz (sg : List Dc) (h : ∀ d ∈ sg, mayB d.t = true) (hl : sg.length < room) : WSz ⟨sg, [], []⟩ := ⟨by show 0 < room; decide, by simp, hl, fun d hd => may_room (h d hd), by show 0 < room; decide, by simp⟩
theorem confB_nat : ConfB [tNat] [tNat, tNat] = true := by
  have h : hasB [tNat] tNat = true := by
    unfold hasB
    show (!((!sameB tNat tNat) && true)) = true
    rw [sameB_refl]; rfl
  show (hasB [tNat] tNat && (hasB [tNat] tNat && true)) = true
  rw [h]; rfl
set_option maxHeartbeats 4000000 in
theorem awake11_spec : (lim C).call 9 [] [] = retB true := by
  have hr : room = 1099511627776 := rfl
  have hz := zT_enc
  have e1 : Dv.agg [.int .i64 2, .int .i64 0, .slc []] = enc tNat := tmc 2 0 [] rfl
  obtain ⟨h1, c1⟩ := wSig_spec natSig (dsz natSig natSig_may (by decide))
  obtain ⟨h2, c2⟩ := wSig_spec swSig (dsz swSig (by
    intro d hd
    simp only [swSig, List.mem_cons, List.not_mem_nil, or_false] at hd
    rcases hd with rfl | rfl
    · exact tNat_may
    · exact zT_may) (by decide))
  rw [natSig_R] at c1
  rw [swSig_R] at c2
  have c2 : (lim C).call 13 [.d (.slc [encD ⟨⟨#[122]⟩, tNat⟩, encD ⟨⟨#[110, 97, 116]⟩, zT⟩])] [] = some (.ret (.tup [dI 0, dI 2]), h2) := c2
  have zn := may_room tNat_may
  obtain ⟨h3, c3⟩ := wConf_spec [tNat] [tNat, tNat] (by decide) (by simpa using zn) (by decide)
  obtain ⟨h4, c4⟩ := wConf_spec [] [tNat] (by decide) (by simp) (by decide)
  rw [confB_nat] at c3
  have c3 : (lim C).call 11 [.d (.slc [enc tNat]), .d (.slc [enc tNat, enc tNat])] [] = some (.ret (dB true), h3) := c3
  have c4 : (lim C).call 11 [.d (.slc []), .d (.slc [enc tNat])] [] = some (.ret (dB false), h4) := c4
  have g0 : natSig[0]? = some ⟨⟨#[110, 97, 116]⟩, zT⟩ := rfl
  have g1 : natSig[1]? = some ⟨⟨#[122]⟩, tNat⟩ := rfl
  have d0 := encD_fold ⟨⟨#[110, 97, 116]⟩, zT⟩
  have d1 := encD_fold ⟨⟨#[122]⟩, tNat⟩
  simp only at d0 d1
  rw [ev_fn 9 Try.f9 _ _ _ rfl Try.func9 rfl Try.ntmps9 rfl]
  simp -implicitDefEqProofs (disch := decide +kernel) only [go_sem, ↓reduceIte, Nat.reduceSub, Nat.reduceAdd, Nat.reduceMul, Nat.reduceBEq, Nat.reduceLT, Nat.reduceLeDiff, Nat.reduceEqDiff, reduceCtorEq, Int.reduceToNat, Int.reduceLE, Int.reduceLT, Int.reduceBEq, Int.reduceBNe, mCall, nat_spec, c1, c2, c3, c4, g0, g1, d0, d1, e1, cells_enc, cells_encD, cel3, (enc_eq tNat).symm]
end Go.Proofs.Ytbcoacljjhbonaa
/- Laws of layer 11: WorldLimits, WorldParts. -/
set_option linter.unusedSimpArgs false
set_option linter.unusedVariables false
set_option maxRecDepth 100000
namespace Go.Proofs.Ytbcoacljjhbonaa
open Go.Proofs
theorem take_succ' {l : List Tm} {i : Nat} (hi : i < l.length) : l.take (i + 1) = l.take i ++ [l.getD i default] := by
  rw [List.take_add_one, List.getElem?_eq_getElem hi, List.getD_eq_getElem?_getD, List.getElem?_eq_getElem hi]
  rfl
theorem rep_snoc {α : Type} (n : Nat) (x : α) : List.replicate n x ++ [x] = List.replicate (n + 1) x := by
  rw [List.replicate_succ']
theorem encDs_rep (n : Nat) (d : Dc) : encDs (List.replicate n d) = List.replicate n (encD d) := by simp [encDs]
theorem encs_rep (n : Nat) (a : Tm) : encs (List.replicate n a) = List.replicate n (enc a) := by simp [encs]
theorem appG_first (ys : List Dv) (sz : Nat) (locs : List (Option (List AV))) (heap : List HO) (tk : List (Option Nat)) (hr : ys.length ≤ room) (hw : (ys.all fun x => x.width == sz) = true) (hg : (ys.isEmpty && !(sz == 3)) = false := by simp) :
    mApp (.clip []) ys sz { locs := locs, heap := heap, toks := tk } = some (.v (.own tk.length ys), { locs := locs, heap := heap, toks := tk ++ [some ys.length] }) := by
  simp [mApp, appOwn, hg, hr]
  simpa using hw
theorem appG (xs : List Dv) (y : Dv) (sz t : Nat) (tk : List (Option Nat)) (locs : List (Option (List AV))) (heap : List HO) (hx0 : xs ≠ []) (ht : tk[t]? = some (some xs.length)) (hr : xs.length < room) (hx : (xs.all fun x => x.width == sz) = true) (hy : y.width = sz) :
    mApp (.own t xs) [y] sz { locs := locs, heap := heap, toks := tk } = some (.v (.own t (xs ++ [y])), { locs := locs, heap := heap, toks := tk.set t (some (xs.length + 1)) }) := by
  have h1 : xs.isEmpty = false := by cases xs with
    | nil => exact absurd rfl hx0
    | cons x xs => rfl
  have : xs.length + 1 ≤ room := hr
  simp [mApp, appOwn, h1, ht, this, hy]
  simpa using hx
def wl_S (d : Dc) (a : Tm) (n : Int) (i : Nat) : St := mk 81 [(2, dI n), (3, .lref 3 0), (4, .lref 4 0), (10, if i = 0 then .clip [] else .own 0 (encDs (List.replicate i d))), (11, if i = 0 then .clip [] else .own 1 (encs (List.replicate i a))), (12, dI i)] [(3, cel4 d), (4, cel3 a)] [] (if i = 0 then [] else [some i, some i])
theorem wl_step {d : Dc} {a : Tm} {n : Int} {i : Nat} (h0 : 0 ≤ n) (hn : n ≤ 10) (hi : (i : Int) < 41 + n) :
    (lim C).code 7 (cf (.loop (cf (cf (cs (cf (cs (cs (cs (cs (cs (cs (cs (bodyOf Try.f7)))))))))))))) (wl_S d a n i) = some (.nor, wl_S d a n (i + 1)) := by
  have hr : room = 1099511627776 := rfl
  have hw1 : IntKind.wrap .i64 (41 + n) = 41 + n := wrap_ok (by omega) (by omega)
  have hlt : decide ((i : Int) < 41 + n) = true := by simpa using hi
  have hde := encD_fold d
  have hea := (enc_eq a).symm
  have hws := wrap_succ (n := i) (by omega)
  rcases Nat.eq_zero_or_pos i with h | h
  · subst h
    have h1 := fun locs heap => app_first [encD d] 4 locs heap (by show 1 ≤ room; decide) (by simp [encD_width]) (by simp)
    have h2 := fun locs heap => appG_first [enc a] 3 locs heap [some 1] (by show 1 ≤ room; decide) (by simp [enc_width])
    simp only [wl_S, if_pos, if_neg (show ¬ (0 + 1 = 0) by decide)]
    simp -implicitDefEqProofs (disch := decide +kernel) only [cf, cs, bodyOf, Try.f7, Option.getD_some, go_sem, ↓reduceIte, Nat.reduceSub, Nat.reduceAdd, Nat.reduceMul, Nat.reduceBEq, Nat.reduceLT, Nat.reduceLeDiff, Nat.reduceEqDiff, reduceCtorEq, Int.reduceToNat, Int.reduceLE, Int.reduceLT, Int.reduceBEq, Int.reduceBNe, mCall, cel3, cel4, hw1, hlt, cells_enc, cells_encD, hde, hea, h1, h2, hws, List.replicate]
    rfl
  · have hi0 : ¬ i = 0 := by omega
    have h1 := fun locs heap => appG (encDs (List.replicate i d)) (encD d) 4 0 [some i, some i] locs heap (by rw [encDs_rep]; intro e; have := congrArg List.length e; simp at this; omega) (by simp [encDs]) (by simp [encDs]; omega) (encDs_all _) (encD_width d)
    have h2 := fun locs heap => appG (encs (List.replicate i a)) (enc a) 3 1 [some (i + 1), some i] locs heap (by rw [encs_rep]; intro e; have := congrArg List.length e; simp at this; omega) (by simp [encs]) (by simp [encs]; omega) (encs_all _) (enc_width a)
    have l1 : (encDs (List.replicate i d)).length = i := by simp [encDs]
    have l2 : (encs (List.replicate i a)).length = i := by simp [encs]
    have r1 : encDs (List.replicate i d) ++ [encD d] = encDs (List.replicate (i + 1) d) := by rw [encDs_rep, encDs_rep, rep_snoc]
    have r2 : encs (List.replicate i a) ++ [enc a] = encs (List.replicate (i + 1) a) := by rw [encs_rep, encs_rep, rep_snoc]
    simp only [l1, r1, List.set_cons_zero] at h1
    simp only [l2, r2, List.set_cons_succ, List.set_cons_zero] at h2
    simp only [wl_S, if_neg hi0, if_neg (show ¬ (i + 1 = 0) by omega)]
    simp -implicitDefEqProofs (disch := decide +kernel) only [cf, cs, bodyOf, Try.f7, Option.getD_some, go_sem, ↓reduceIte, Nat.reduceSub, Nat.reduceAdd, Nat.reduceMul, Nat.reduceBEq, Nat.reduceLT, Nat.reduceLeDiff, Nat.reduceEqDiff, reduceCtorEq, Int.reduceToNat, Int.reduceLE, Int.reduceLT, Int.reduceBEq, Int.reduceBNe, mCall, cel3, cel4, hw1, hlt, cells_enc, cells_encD, hde, hea, h1, h2, hws]
set_option maxHeartbeats 4000000 in
theorem worldLimits_holds (d : Dc) (wd : Wf d.t) (hd : d.t.size + 1 ≤ 1048576) (a : Tm) (wa : Wf a) (ha : a.size ≤ 1048576) (n : Int) (jn : in64 n) : ∃ h, (lim C).call 7 [dDc d, dT a, dI n] [] = some (.ret (dB true), h) := by
  have hr : room = 1099511627776 := rfl
  have htv : topV = 1125899906842624 := rfl
  have hA := awake11_spec
  have za := size_room ha
  have zd := size_room (t := d.t) (by omega)
  have hp := light_spec a 300 60 za
  have hq := light_spec d.t 300 60 zd
  have hea := (enc_eq a).symm
  have hed := (enc_eq d.t).symm
  have hde := encD_fold d
  refine ⟨[], ?_⟩
  rw [ev_fn 7 Try.f7 _ _ _ rfl Try.func7 rfl Try.ntmps7 rfl]
  cases k1 : lightB a 300 60
  · simp -implicitDefEqProofs (disch := decide +kernel) only [go_sem, ↓reduceIte, Nat.reduceSub, Nat.reduceAdd, Nat.reduceMul, Nat.reduceBEq, Nat.reduceLT, Nat.reduceLeDiff, Nat.reduceEqDiff, reduceCtorEq, Int.reduceToNat, Int.reduceLE, Int.reduceLT, Int.reduceBEq, Int.reduceBNe, mCall, hA, hp, hq, cells_enc, cells_encD, cel3, hea, hed, hde, k1]
  · skip
    cases k2 : lightB d.t 300 60
    · simp -implicitDefEqProofs (disch := decide +kernel) only [go_sem, ↓reduceIte, Nat.reduceSub, Nat.reduceAdd, Nat.reduceMul, Nat.reduceBEq, Nat.reduceLT, Nat.reduceLeDiff, Nat.reduceEqDiff, reduceCtorEq, Int.reduceToNat, Int.reduceLE, Int.reduceLT, Int.reduceBEq, Int.reduceBNe, mCall, hA, hp, hq, cells_enc, cells_encD, cel3, hea, hed, hde, k1, k2]
    · skip
      cases k3 : decide (n < 0)
      rotate_left
      · simp -implicitDefEqProofs (disch := decide +kernel) only [go_sem, ↓reduceIte, Nat.reduceSub, Nat.reduceAdd, Nat.reduceMul, Nat.reduceBEq, Nat.reduceLT, Nat.reduceLeDiff, Nat.reduceEqDiff, reduceCtorEq, Int.reduceToNat, Int.reduceLE, Int.reduceLT, Int.reduceBEq, Int.reduceBNe, mCall, hA, hp, hq, cells_enc, cells_encD, cel3, hea, hed, hde, k1, k2, k3]
      cases k4 : decide (n > 10)
      rotate_left
      · simp -implicitDefEqProofs (disch := decide +kernel) only [go_sem, ↓reduceIte, Nat.reduceSub, Nat.reduceAdd, Nat.reduceMul, Nat.reduceBEq, Nat.reduceLT, Nat.reduceLeDiff, Nat.reduceEqDiff, reduceCtorEq, Int.reduceToNat, Int.reduceLE, Int.reduceLT, Int.reduceBEq, Int.reduceBNe, mCall, hA, hp, hq, cells_enc, cells_encD, cel3, hea, hed, hde, k1, k2, k3, k4]
      have h3 : ¬ n < 0 := by simpa using k3
      have h4 : ¬ n > 10 := by simpa using k4
      obtain ⟨N, hN⟩ : ∃ N : Nat, (N : Int) = 41 + n := ⟨(41 + n).toNat, by omega⟩
      have hN40 : 40 < N := by omega
      have hw1 : IntKind.wrap .i64 (41 + n) = 41 + n := wrap_ok (by omega) (by omega)
      have hge : decide ((N : Int) < 41 + n) = false := by simp; omega
      have hN0 : ¬ N = 0 := by omega
      have hloop : (lim C).code 7 (.loop (cf (cf (cs (cf (cs (cs (cs (cs (cs (cs (cs (bodyOf Try.f7))))))))))))) (wl_S d a n 0) = some (.exit 0, mk 81 [(2, dI n), (3, .lref 3 0), (4, .lref 4 0), (10, .own 0 (encDs (List.replicate N d))), (11, .own 1 (encs (List.replicate N a))), (12, dI N), (43, dB false)] [(3, cel4 d), (4, cel3 a)] [] [some N, some N]) := by
        refine loop_run (wl_S d a n) N (fun i hi => wl_step (by omega) (by omega) (by omega)) ?_ (by simp)
        simp only [wl_S, if_neg hN0]
        simp -implicitDefEqProofs (disch := decide +kernel) only [cf, cs, bodyOf, Try.f7, Option.getD_some, go_sem, ↓reduceIte, Nat.reduceSub, Nat.reduceAdd, Nat.reduceMul, Nat.reduceBEq, Nat.reduceLT, Nat.reduceLeDiff, Nat.reduceEqDiff, reduceCtorEq, Int.reduceToNat, Int.reduceLE, Int.reduceLT, Int.reduceBEq, Int.reduceBNe, mCall, cel3, cel4, hw1, hge]
      have hlenD : (List.replicate N d).length = N := by simp
      have hlenT : (List.replicate N a).length = N := by simp
      have hrm : N < room := by omega
      have zrD : ∀ x ∈ List.replicate N d, x.t.size < room := fun x hx => by rw [List.eq_of_mem_replicate hx]; exact zd
      have zrT : ∀ x ∈ List.replicate N a, x.size < room := fun x hx => by rw [List.eq_of_mem_replicate hx]; exact za
      obtain ⟨h1, c1⟩ := wSig_spec (List.replicate N d) ⟨by show 0 < room; decide, by simp, by rw [hlenD]; exact hrm, zrD, by show 0 < room; decide, by simp⟩
      have hin : WIn 2097152 ⟨[], [], []⟩ := ⟨⟨by show 0 < room; decide, by simp, by show 0 < room; decide, by simp, by show 0 < room; decide, by simp⟩, by decide, by rw [htv]; decide, by simp, by simp, by simp⟩
      obtain ⟨h2, c2⟩ := wCtx_spec hin (List.replicate N a) zrT (by show 0 + _ < room; rw [hlenT]; omega)
      obtain ⟨h5, c3⟩ := wSchema_spec hin (List.replicate N a) zrT (by rw [hlenT]; exact hrm)
      obtain ⟨h6, c4⟩ := wConf_spec [a] (List.replicate N a) (by show 1 < room; decide) (by simpa using za) (by rw [hlenT]; exact hrm)
      have e1 : SigR (List.replicate N d) = (0, 4) := first_many _ (by rw [hlenD]; exact hN40)
      have e2 : CtxWR (Wo.wd ⟨[], [], []⟩) [] (List.replicate N a) = 4 := by unfold CtxWR; rw [first_many _ (by rw [hlenT]; exact hN40)]
      have e3 : SchemaR (Wo.wd ⟨[], [], []⟩) (List.replicate N a) = 4 := by unfold SchemaR; rw [first_many _ (by rw [hlenT]; exact hN40)]
      have e4 : ConfB [a] (List.replicate N a) = true := by
        unfold ConfB
        rw [allB_iff]
        intro i hi
        rw [hlenT] at hi
        rw [List.getD_eq_getElem?_getD, List.getElem?_eq_getElem (by simpa using hi)]
        simp only [List.getElem_replicate, Option.getD_some]
        show (!((!sameB a a) && true)) = true
        rw [sameB_refl]; rfl
      rw [e1] at c1
      rw [e2] at c2
      rw [e3] at c3
      rw [e4] at c4
      have c2 : (lim C).call 14 [.d (.slc []), .d (.slc []), .d (.slc []), dL (List.replicate N a)] [] = some (.ret (dI 4), h2) := c2
      have c3 : (lim C).call 16 [.d (.slc []), dL (List.replicate N a)] [] = some (.ret (dI 4), h5) := c3
      have c4 : (lim C).call 11 [.d (.slc [enc a]), dL (List.replicate N a)] [] = some (.ret (dB true), h6) := c4
      simp -implicitDefEqProofs (disch := decide +kernel) only [go_sem, ↓reduceIte, Nat.reduceSub, Nat.reduceAdd, Nat.reduceMul, Nat.reduceBEq, Nat.reduceLT, Nat.reduceLeDiff, Nat.reduceEqDiff, reduceCtorEq, Int.reduceToNat, Int.reduceLE, Int.reduceLT, Int.reduceBEq, Int.reduceBNe, mCall, hA, hp, hq, cells_enc, cells_encD, cel3, cel4, hea, hed, hde, k1, k2, k3, k4]
      rw [loop_at hloop ?hb ?hs]
      case hb => rfl
      case hs => rfl
      simp -implicitDefEqProofs (disch := decide +kernel) only [go_sem, ↓reduceIte, Nat.reduceSub, Nat.reduceAdd, Nat.reduceMul, Nat.reduceBEq, Nat.reduceLT, Nat.reduceLeDiff, Nat.reduceEqDiff, reduceCtorEq, Int.reduceToNat, Int.reduceLE, Int.reduceLT, Int.reduceBEq, Int.reduceBNe, mCall, cells_enc, cells_encD, cel3, cel4, hea, hed, hde, c1, c2, c3, c4]
theorem allB_add (n m : Nat) (p : Nat → Bool) : allB (n + m) p = (allB n p && allB m fun i => p (n + i)) := by
  rw [Bool.eq_iff_iff, Bool.and_eq_true, allB_iff, allB_iff, allB_iff]
  constructor
  · exact fun h => ⟨fun i hi => h i (by omega), fun i hi => h (n + i) (by omega)⟩
  · rintro ⟨h1, h2⟩ i hi
    rcases Nat.lt_or_ge i n with h | h
    · exact h1 i h
    · have := h2 (i - n) (by omega)
      rwa [show n + (i - n) = i by omega] at this
theorem conf_append (sc a b : List Tm) : ConfB sc (a ++ b) = (ConfB sc a && ConfB sc b) := by
  unfold ConfB
  rw [List.length_append, allB_add]
  congr 1
  · refine allB_congr fun i hi => ?_
    rw [getD_append_l hi]
  · refine allB_congr fun i hi => ?_
    congr 1
    rw [List.getD_eq_getElem?_getD, List.getElem?_append_right (by omega), List.getD_eq_getElem?_getD]
    congr 2
    omega
theorem allB_snoc (n : Nat) (p : Nat → Bool) : allB (n + 1) p = (allB n p && p n) := by
  rw [allB_add n 1 p]
  show (allB n p && (p (n + 0) && true)) = _
  rw [Bool.and_true]; rfl
def wp_S (sc a b : List Tm) (i : Nat) : St := mk 79 [(0, dL sc), (1, dL a), (2, dL b), (11, .own 0 (encs (a ++ b))), (12, dB (allB i fun j => hasB sc ((a ++ b).getD j default))), (13, dI i)] [] [] [some (a.length + b.length)]
set_option maxHeartbeats 4000000 in
theorem worldParts_holds (sc : List Tm) (wsc : ∀ t ∈ sc, Wf t) (hsc : (sc.map Tm.size).sum + 1 ≤ 1048576) (a : List Tm) (wa : ∀ t ∈ a, Wf t) (ha : (a.map Tm.size).sum + 1 ≤ 1048576) (b : List Tm) (wb : ∀ t ∈ b, Wf t) (hb : (b.map Tm.size).sum + 1 ≤ 1048576) :
    ∃ h, (lim C).call 3 [dL sc, dL a, dL b] [] = some (.ret (dB true), h) := by
  have hr : room = 1099511627776 := rfl
  have hA := awake11_spec
  obtain ⟨l1, z1⟩ := lists_room hsc
  obtain ⟨l2, z2⟩ := lists_room ha
  obtain ⟨l3, z3⟩ := lists_room hb
  have hp := lights_spec sc 500 80 l1 z1
  have hq := lights_spec a 500 80 l2 z2
  have hs := lights_spec b 500 80 l3 z3
  refine ⟨[], ?_⟩
  rw [ev_fn 3 Try.f3 _ _ _ rfl Try.func3 rfl Try.ntmps3 rfl]
  cases k1 : lightsB sc 500 80
  · simp -implicitDefEqProofs (disch := decide +kernel) only [go_sem, ↓reduceIte, Nat.reduceSub, Nat.reduceAdd, Nat.reduceMul, Nat.reduceBEq, Nat.reduceLT, Nat.reduceLeDiff, Nat.reduceEqDiff, reduceCtorEq, Int.reduceToNat, Int.reduceLE, Int.reduceLT, Int.reduceBEq, Int.reduceBNe, mCall, hA, hp, hq, hs, k1]
  · skip
    cases k2 : lightsB a 500 80
    · simp -implicitDefEqProofs (disch := decide +kernel) only [go_sem, ↓reduceIte, Nat.reduceSub, Nat.reduceAdd, Nat.reduceMul, Nat.reduceBEq, Nat.reduceLT, Nat.reduceLeDiff, Nat.reduceEqDiff, reduceCtorEq, Int.reduceToNat, Int.reduceLE, Int.reduceLT, Int.reduceBEq, Int.reduceBNe, mCall, hA, hp, hq, hs, k1, k2]
    · skip
      cases k3 : lightsB b 500 80
      · simp -implicitDefEqProofs (disch := decide +kernel) only [go_sem, ↓reduceIte, Nat.reduceSub, Nat.reduceAdd, Nat.reduceMul, Nat.reduceBEq, Nat.reduceLT, Nat.reduceLeDiff, Nat.reduceEqDiff, reduceCtorEq, Int.reduceToNat, Int.reduceLE, Int.reduceLT, Int.reduceBEq, Int.reduceBNe, mCall, hA, hp, hq, hs, k1, k2, k3]
      · skip
        have hal := (lights_parts k2).1
        have hbl := (lights_parts k3).1
        have hlen : (a ++ b).length = a.length + b.length := List.length_append
        have ha1 := fun locs heap => app_first (encs a) 3 locs heap (by rw [encs_length]; omega) (encs_all _)
        have ha2 := fun locs heap => app_more (encs a) (encs b) 3 (by simp) locs heap (by rw [encs_length, encs_length]; omega) (encs_all _) (encs_all _)
        simp only [encs_length, ← encs_append] at ha1 ha2
        have hloop : (lim C).code 3 (.loop (cf (cf (cs (cf (cs (cs (cs (cs (cs (cs (cs (cs (bodyOf Try.f3)))))))))))))) (wp_S sc a b 0) = some (.exit 0, mk 79 [(0, dL sc), (1, dL a), (2, dL b), (11, .own 0 (encs (a ++ b))), (12, dB (ConfB sc (a ++ b))), (13, dI (a ++ b).length), (44, dB false)] [] [] [some (a.length + b.length)]) := by
          refine loop_run (wp_S sc a b) (a ++ b).length (fun i hi => ?_) ?_ (by simp)
          · have hg : ((encs (a ++ b)).take (i + 1)).drop i = [enc ((a ++ b).getD i default)] := by
              rw [← encs_take, take_succ' hi, encs_append, List.drop_append_of_le_length (by rw [encs_length, List.length_take]; omega), List.drop_of_length_le (by rw [encs_length, List.length_take]; omega)]
              rfl
            obtain ⟨h1, c1⟩ := wConf_spec sc [(a ++ b).getD i default] l1 z1 (by show 1 < room; decide)
            have e1 : ConfB sc [(a ++ b).getD i default] = hasB sc ((a ++ b).getD i default) := by
              show (hasB sc _ && true) = _
              rw [Bool.and_true]; rfl
            rw [e1] at c1
            have c1 : (lim C).call 11 [dL sc, .d (.slc [enc ((a ++ b).getD i default)])] [] = some (.ret (dB (hasB sc ((a ++ b).getD i default))), h1) := c1
            have hsn := allB_snoc i fun j => hasB sc ((a ++ b).getD j default)
            have hle : i + 1 ≤ (a ++ b).length := by omega
            have hlt : decide ((i : Int) < (a ++ b).length) = true := lt_true hi
            have hws := wrap_succ (n := i) (by omega)
            simp only [hlen] at hle hlt
            unfold wp_S
            rw [hsn]
            cases hb0 : allB i fun j => hasB sc ((a ++ b).getD j default)
            · simp -implicitDefEqProofs (disch := decide +kernel) only [cf, cs, bodyOf, Try.f3, Option.getD_some, go_sem, ↓reduceIte, Nat.reduceSub, Nat.reduceAdd, Nat.reduceMul, Nat.reduceBEq, Nat.reduceLT, Nat.reduceLeDiff, Nat.reduceEqDiff, reduceCtorEq, Int.reduceToNat, Int.reduceLE, Int.reduceLT, Int.reduceBEq, Int.reduceBNe, mCall, hlen, hlt, hws]
            · simp -implicitDefEqProofs (disch := decide +kernel) only [cf, cs, bodyOf, Try.f3, Option.getD_some, go_sem, ↓reduceIte, Nat.reduceSub, Nat.reduceAdd, Nat.reduceMul, Nat.reduceBEq, Nat.reduceLT, Nat.reduceLeDiff, Nat.reduceEqDiff, reduceCtorEq, Int.reduceToNat, Int.reduceLE, Int.reduceLT, Int.reduceBEq, Int.reduceBNe, mCall, hlen, hlt, hws, hle, hg, encs_all, c1, Nat.zero_le, Nat.le_succ]
          · have hge : decide (((a ++ b).length : Int) < (a ++ b).length) = false := lt_false (Nat.le_refl _)
            simp only [hlen] at hge
            unfold ConfB wp_S
            simp -implicitDefEqProofs (disch := decide +kernel) only [cf, cs, bodyOf, Try.f3, Option.getD_some, go_sem, ↓reduceIte, Nat.reduceSub, Nat.reduceAdd, Nat.reduceMul, Nat.reduceBEq, Nat.reduceLT, Nat.reduceLeDiff, Nat.reduceEqDiff, reduceCtorEq, Int.reduceToNat, Int.reduceLE, Int.reduceLT, Int.reduceBEq, Int.reduceBNe, mCall, hlen, hge]
        obtain ⟨h1, c1⟩ := wConf_spec sc a l1 z1 l2
        obtain ⟨h2, c2⟩ := wConf_spec sc b l1 z1 l3
        obtain ⟨h3, c3⟩ := wConf_spec sc (a ++ b) l1 z1 (by rw [hlen]; omega)
        obtain ⟨h4, c4⟩ := wConf_spec sc [] l1 z1 (by show 0 < room; decide)
        have c4 : (lim C).call 11 [dL sc, .d (.slc [])] [] = some (.ret (dB true), h4) := c4
        rw [conf_append] at c3 hloop
        simp -implicitDefEqProofs (disch := decide +kernel) only [go_sem, ↓reduceIte, Nat.reduceSub, Nat.reduceAdd, Nat.reduceMul, Nat.reduceBEq, Nat.reduceLT, Nat.reduceLeDiff, Nat.reduceEqDiff, reduceCtorEq, Int.reduceToNat, Int.reduceLE, Int.reduceLT, Int.reduceBEq, Int.reduceBNe, mCall, hA, hp, hq, hs, k1, k2, k3, ha1, ha2]
        rw [loop_at hloop ?hb ?hs]
        case hb => rfl
        case hs => rfl
        have htt : (true == true) = true := rfl
        have hff : (false == false) = true := rfl
        cases b1 : ConfB sc a
        · rw [b1, Bool.false_and] at c3
          rw [b1] at c1
          simp -implicitDefEqProofs (disch := decide +kernel) only [go_sem, ↓reduceIte, Nat.reduceSub, Nat.reduceAdd, Nat.reduceMul, Nat.reduceBEq, Nat.reduceLT, Nat.reduceLeDiff, Nat.reduceEqDiff, reduceCtorEq, Int.reduceToNat, Int.reduceLE, Int.reduceLT, Int.reduceBEq, Int.reduceBNe, mCall, c1, c2, c3, c4, htt, hff]
        · cases b2 : ConfB sc b
          · rw [b1, b2, Bool.true_and] at c3
            rw [b1] at c1
            rw [b2] at c2
            simp -implicitDefEqProofs (disch := decide +kernel) only [go_sem, ↓reduceIte, Nat.reduceSub, Nat.reduceAdd, Nat.reduceMul, Nat.reduceBEq, Nat.reduceLT, Nat.reduceLeDiff, Nat.reduceEqDiff, reduceCtorEq, Int.reduceToNat, Int.reduceLE, Int.reduceLT, Int.reduceBEq, Int.reduceBNe, mCall, c1, c2, c3, c4, htt, hff]
          · rw [b1, b2, Bool.true_and] at c3
            rw [b1] at c1
            rw [b2] at c2
            simp -implicitDefEqProofs (disch := decide +kernel) only [go_sem, ↓reduceIte, Nat.reduceSub, Nat.reduceAdd, Nat.reduceMul, Nat.reduceBEq, Nat.reduceLT, Nat.reduceLeDiff, Nat.reduceEqDiff, reduceCtorEq, Int.reduceToNat, Int.reduceLE, Int.reduceLT, Int.reduceBEq, Int.reduceBNe, mCall, c1, c2, c3, c4, htt, hff]
end Go.Proofs.Ytbcoacljjhbonaa
/- Laws of layers 10 and 11: CheckMore, WorldMore, WorldConforms. -/
set_option linter.unusedSimpArgs false
set_option linter.unusedVariables false
set_option maxRecDepth 100000
namespace Go.Proofs.Ytbcoacljjhbonaa
open Go.Proofs
theorem acc_snoc (t : Nat) (xs : List Dv) (y : Dv) : acc t (xs ++ [y]) = .own t (xs ++ [y]) := by cases xs <;> rfl
theorem acc_pure (t : Nat) (xs : List Dv) : (acc t xs).pure = true := by cases xs <;> rfl
def accTk (tk : List (Option Nat)) (n : Nat) : List (Option Nat) := if n = 0 then tk else tk ++ [some n]
theorem app_anyG (ys : List Dv) (sz : Nat) (h3 : (sz == 3) = false) (tk : List (Option Nat)) (locs : List (Option (List AV))) (heap : List HO) (hr : ys.length ≤ room) (hw : (ys.all fun x => x.width == sz) = true) :
    mApp (.clip []) ys sz { locs := locs, heap := heap, toks := tk } = some (.v (acc tk.length ys), { locs := locs, heap := heap, toks := accTk tk ys.length }) := by
  cases ys with
  | nil => simp [mApp, h3, acc, accTk]
  | cons y ys =>
    have := appG_first (y :: ys) sz locs heap tk hr hw (by simp)
    rw [this]
    simp [acc, accTk]
theorem app_any2G (xs ys : List Dv) (sz : Nat) (h3 : (sz == 3) = false) (tk : List (Option Nat)) (locs : List (Option (List AV))) (heap : List HO) (hr : xs.length + ys.length ≤ room) (hx : (xs.all fun x => x.width == sz) = true) (hw : (ys.all fun x => x.width == sz) = true) :
    mApp (acc tk.length xs) ys sz { locs := locs, heap := heap, toks := accTk tk xs.length } = some (.v (acc tk.length (xs ++ ys)), { locs := locs, heap := heap, toks := accTk tk (xs ++ ys).length }) := by
  cases xs with
  | nil => exact app_anyG ys sz h3 tk locs heap (by simpa using hr) hw
  | cons x xs =>
    have hlen : (x :: xs ++ ys).length = (x :: xs).length + ys.length := List.length_append
    have h1 : accTk tk (x :: xs).length = tk ++ [some (x :: xs).length] := by simp [accTk]
    have h2 : accTk tk (x :: xs ++ ys).length = tk ++ [some ((x :: xs).length + ys.length)] := by
      rw [hlen]; unfold accTk; rw [if_neg (by simp)]
    rw [h1, h2]
    show mApp (.own tk.length (x :: xs)) ys sz { locs := locs, heap := heap, toks := tk ++ [some (x :: xs).length] } = some (.v (.own tk.length (x :: xs ++ ys)), _)
    simp only [mApp, appOwn, List.isEmpty_cons, Bool.false_and, Bool.false_eq_true, if_false]
    simp only [hr, hx, hw]
    simp
theorem ext_app (sg sg' : List Dc) (ms ms' : List Md) (c : List Tm) : Ext (Wo.wd ⟨sg, ms, c⟩) (Wo.wd ⟨sg ++ sg', ms ++ ms', c⟩) := by
  refine ⟨by simp [Wo.wd], fun j hj => ?_, by simp [Wo.wd], fun j hj => ?_⟩
  · simp only [Wo.wd, List.length_map] at hj
    simp only [Wo.wd]
    rw [List.map_append, List.getD_eq_getElem?_getD, List.getD_eq_getElem?_getD, List.getElem?_append_left (by simpa using hj)]
  · have hj : j < ms.length := hj
    show (ms ++ ms').getD j default = ms.getD j default
    rw [List.getD_eq_getElem?_getD, List.getD_eq_getElem?_getD, List.getElem?_append_left hj]
theorem more_plain {w w' : Wd} {c : List Tm} {m a : Tm} (hx : Ext w w') (h : TermR w c m a = 0) : TermR w' c m a = 0 ∨ TermR w' c m a = 1 := by
  obtain ⟨h1, h2⟩ := TermR_ok h
  have hm := mayW_of h1 m (by simp)
  unfold TermR
  cases mayW w' c [m, a]
  · exact .inr rfl
  · rw [if_pos rfl]
    exact .inl (term_ext hx m a c c (may_parts hm).1 (Front.self c) (.inl rfl) h2)
theorem typ_more {w w' : Wd} {c : List Tm} {a : Tm} (hx : Ext w w') (h : TypR w c a = 0) : TypR w' c a = 0 ∨ TypR w' c a = 1 := by
  obtain ⟨h1, h2⟩ := TypR_ok h
  have hm := mayW_of h1 a (by simp)
  unfold TypR
  cases mayW w' c [a]
  · exact .inr rfl
  · rw [if_pos rfl]
    exact .inl (typ_ext hx a c c (may_parts hm).1 (Front.self c) (.inl rfl) h2)
set_option maxHeartbeats 8000000 in
theorem checkMore_holds (sg : List Dc) (wsg : ∀ t ∈ sg, Wf t.t) (hsg : dsum sg + 1 ≤ 1048576) (sg' : List Dc) (wsg' : ∀ t ∈ sg', Wf t.t) (hsg' : dsum sg' + 1 ≤ 1048576) (ms : List Md) (wms : ∀ t ∈ ms, WfM t) (hms : msum ms + 1 ≤ 1048576) (ms' : List Md) (wms' : ∀ t ∈ ms', WfM t) (hms' : msum ms' + 1 ≤ 1048576)
    (cx : List Tm) (wcx : ∀ t ∈ cx, Wf t) (hcx : (cx.map Tm.size).sum + 1 ≤ 1048576) (m : Tm) (wm : Wf m) (hm : m.size ≤ 1048576) (a : Tm) (wa : Wf a) (ha : a.size ≤ 1048576) :
    ∃ h, (lim C).call 8 [dDs sg, dDs sg', dMs ms, dMs ms', dL cx, dT m, dT a] [] = some (.ret (dB true), h) := by
  have hr : room = 1099511627776 := rfl
  have hA := awake10_spec
  have hw := wsz_of hsg hms hcx
  have hw' := wsz_of (cx := []) hsg' hms' (by simp)
  have hF := fewW_spec ⟨sg, ms, cx⟩ hw
  have hF : (lim C).call 12 [dDs sg, dMs ms, dL cx] [] = _ := hF
  have hF2 := fewW_spec ⟨sg', ms', []⟩ hw'
  have hF2 : (lim C).call 12 [dDs sg', dMs ms', .d (.slc [])] [] = _ := hF2
  have zm := size_room hm
  have za := size_room ha
  have hp := light_spec m 400 60 zm
  have hq := light_spec a 400 60 za
  have hem := (enc_eq m).symm
  have hea := (enc_eq a).symm
  refine ⟨[], ?_⟩
  rw [ev_fn 8 Try.f8 _ _ _ rfl Try.func8 rfl Try.ntmps8 rfl]
  cases k1 : fewW ⟨sg, ms, cx⟩
  · simp -implicitDefEqProofs (disch := decide +kernel) only [go_sem, ↓reduceIte, Nat.reduceSub, Nat.reduceAdd, Nat.reduceMul, Nat.reduceBEq, Nat.reduceLT, Nat.reduceLeDiff, Nat.reduceEqDiff, reduceCtorEq, Int.reduceToNat, Int.reduceLE, Int.reduceLT, Int.reduceBEq, Int.reduceBNe, mCall, hA, hF, hF2, hp, hq, cells_enc, cel3, hem, hea, k1]
  · skip
    cases k2 : fewW ⟨sg', ms', []⟩
    · simp -implicitDefEqProofs (disch := decide +kernel) only [go_sem, ↓reduceIte, Nat.reduceSub, Nat.reduceAdd, Nat.reduceMul, Nat.reduceBEq, Nat.reduceLT, Nat.reduceLeDiff, Nat.reduceEqDiff, reduceCtorEq, Int.reduceToNat, Int.reduceLE, Int.reduceLT, Int.reduceBEq, Int.reduceBNe, mCall, hA, hF, hF2, hp, hq, cells_enc, cel3, hem, hea, k1, k2]
    · skip
      cases k3 : lightB m 400 60
      · simp -implicitDefEqProofs (disch := decide +kernel) only [go_sem, ↓reduceIte, Nat.reduceSub, Nat.reduceAdd, Nat.reduceMul, Nat.reduceBEq, Nat.reduceLT, Nat.reduceLeDiff, Nat.reduceEqDiff, reduceCtorEq, Int.reduceToNat, Int.reduceLE, Int.reduceLT, Int.reduceBEq, Int.reduceBNe, mCall, hA, hF, hF2, hp, hq, cells_enc, cel3, hem, hea, k1, k2, k3]
      · skip
        cases k4 : lightB a 400 60
        · simp -implicitDefEqProofs (disch := decide +kernel) only [go_sem, ↓reduceIte, Nat.reduceSub, Nat.reduceAdd, Nat.reduceMul, Nat.reduceBEq, Nat.reduceLT, Nat.reduceLeDiff, Nat.reduceEqDiff, reduceCtorEq, Int.reduceToNat, Int.reduceLE, Int.reduceLT, Int.reduceBEq, Int.reduceBNe, mCall, hA, hF, hF2, hp, hq, cells_enc, cel3, hem, hea, k1, k2, k3, k4]
        · skip
          have hin := few_in hw k1
          have hin' := few_in hw' k2
          obtain ⟨⟨l1, _⟩, ⟨l2, _⟩, _⟩ := fewW_parts k1
          obtain ⟨⟨l3, _⟩, ⟨l4, _⟩, _⟩ := fewW_parts k2
          have l1 : sg.length ≤ 30 := l1
          have l2 : ms.length ≤ 30 := l2
          have l3 : sg'.length ≤ 30 := l3
          have l4 : ms'.length ≤ 30 := l4
          have va := light_vle k4
          obtain ⟨h1, c1⟩ := cTerm_spec hin m a zm za va
          have c1 : (lim C).call 18 [dDs sg, dMs ms, dL cx, dT m, dT a] [] = some (.ret (dI (TermR (Wo.wd ⟨sg, ms, cx⟩) cx m a)), h1) := c1
          by_cases h0 : TermR (Wo.wd ⟨sg, ms, cx⟩) cx m a = 0
          · rw [h0] at c1
            have h00 : ((0 : Int) != 0) = false := rfl
            have hin2 : WIn lowK ⟨sg ++ sg', ms ++ ms', cx⟩ := by
              refine ⟨⟨hw.cl, hw.cz, by simp; omega, fun d hd => ?_, by simp; omega, fun d hd => ?_⟩, hin.hk, hin.top, hin.ctx, fun d hd => ?_, fun d hd => ?_⟩
              · rcases List.mem_append.1 hd with hd | hd
                · exact hw.sz d hd
                · exact hw'.sz d hd
              · rcases List.mem_append.1 hd with hd | hd
                · exact hw.mz d hd
                · exact hw'.mz d hd
              · rcases List.mem_append.1 hd with hd | hd
                · exact hin.sig d hd
                · exact hin'.sig d hd
              · rcases List.mem_append.1 hd with hd | hd
                · exact hin.metas d hd
                · exact hin'.metas d hd
            obtain ⟨h2, c2⟩ := cTerm_spec hin2 m a zm za va
            have hres := more_plain (ext_app sg sg' ms ms' cx) h0
            have c2 : (lim C).call 18 [.d (.slc (encDs (sg ++ sg'))), .d (.slc (encMs (ms ++ ms'))), dL cx, dT m, dT a] [] = some (.ret (dI (TermR (Wo.wd ⟨sg ++ sg', ms ++ ms', cx⟩) cx m a)), h2) := c2
            generalize TermR (Wo.wd ⟨sg ++ sg', ms ++ ms', cx⟩) cx m a = e at c2 hres
            rw [encDs_append, encMs_append] at c2
            have a1 := fun locs heap => app_anyG (encDs sg) 4 rfl [] locs heap (by rw [encDs_length]; omega) (encDs_all _)
            have a2 := fun locs heap => app_any2G (encDs sg) (encDs sg') 4 rfl [] locs heap (by rw [encDs_length, encDs_length]; omega) (encDs_all _) (encDs_all _)
            have a3 := fun locs heap => app_anyG (encMs ms) 5 rfl (accTk [] (encDs sg ++ encDs sg').length) locs heap (by rw [encMs_length]; omega) (encMs_all _)
            have a4 := fun locs heap => app_any2G (encMs ms) (encMs ms') 5 rfl (accTk [] (encDs sg ++ encDs sg').length) locs heap (by rw [encMs_length, encMs_length]; omega) (encMs_all _) (encMs_all _)
            simp only [encDs_length, encMs_length] at a1 a2 a3 a4
            generalize accTk [] (encDs sg ++ encDs sg').length = tk at a2 a3 a4
            have hae := fun t xs => acc_erase t xs
            have hap := fun t xs => acc_pure t xs
            have hak := fun t xs => acc_keep t xs
            have h01 : ((0 : Int) == 0) = true := rfl
            have h10 : ((1 : Int) == 0) = false := rfl
            have h11 : ((1 : Int) == 1) = true := rfl
            simp only [List.length_nil] at a1 a2
            rcases hres with rfl | rfl
            · simp -implicitDefEqProofs (disch := decide +kernel) only [go_sem, ↓reduceIte, Nat.reduceSub, Nat.reduceAdd, Nat.reduceMul, Nat.reduceBEq, Nat.reduceLT, Nat.reduceLeDiff, Nat.reduceEqDiff, reduceCtorEq, Int.reduceToNat, Int.reduceLE, Int.reduceLT, Int.reduceBEq, Int.reduceBNe, mCall, hA, hF, hF2, hp, hq, cells_enc, cel3, hem, hea, k1, k2, k3, k4, c1, h00, a1, a2, a3, a4, hae, hap, hak, c2, h01]
            · simp -implicitDefEqProofs (disch := decide +kernel) only [go_sem, ↓reduceIte, Nat.reduceSub, Nat.reduceAdd, Nat.reduceMul, Nat.reduceBEq, Nat.reduceLT, Nat.reduceLeDiff, Nat.reduceEqDiff, reduceCtorEq, Int.reduceToNat, Int.reduceLE, Int.reduceLT, Int.reduceBEq, Int.reduceBNe, mCall, hA, hF, hF2, hp, hq, cells_enc, cel3, hem, hea, k1, k2, k3, k4, c1, h00, a1, a2, a3, a4, hae, hap, hak, c2, h10, h11]
          · have h0' : (TermR (Wo.wd ⟨sg, ms, cx⟩) cx m a != 0) = true := by simpa using h0
            simp -implicitDefEqProofs (disch := decide +kernel) only [go_sem, ↓reduceIte, Nat.reduceSub, Nat.reduceAdd, Nat.reduceMul, Nat.reduceBEq, Nat.reduceLT, Nat.reduceLeDiff, Nat.reduceEqDiff, reduceCtorEq, Int.reduceToNat, Int.reduceLE, Int.reduceLT, Int.reduceBEq, Int.reduceBNe, mCall, hA, hF, hF2, hp, hq, cells_enc, cel3, hem, hea, k1, k2, k3, k4, c1, h0']
theorem ctx_more {w w' : Wd} {cx : List Tm} (hx : Ext w w') (h : CtxWR w [] cx = 0) : CtxWR w' [] cx = 0 ∨ CtxWR w' [] cx = 1 := by
  obtain ⟨hn, ha⟩ := first_ok h
  unfold CtxWR
  rcases first_cases (ctxW w' [] cx) hn with ⟨_, e⟩ | ⟨j, h1, h2, _, e⟩
  · rw [e]; exact .inl rfl
  · rw [e]
    have := typ_more hx (ha j h1)
    exact .inr (this.resolve_left h2)
set_option maxHeartbeats 8000000 in
theorem worldMore_holds (sg : List Dc) (wsg : ∀ t ∈ sg, Wf t.t) (hsg : dsum sg + 1 ≤ 1048576) (d : Dc) (wd : Wf d.t) (hd : d.t.size + 1 ≤ 1048576) (cx : List Tm) (wcx : ∀ t ∈ cx, Wf t) (hcx : (cx.map Tm.size).sum + 1 ≤ 1048576) :
    ∃ h, (lim C).call 5 [dDs sg, dDc d, dL cx] [] = some (.ret (dB true), h) := by
  have hr : room = 1099511627776 := rfl
  have hA := awake11_spec
  have hw := wsz_of (ms := []) hsg (by simp [msum]) hcx
  have hF := fewW_spec ⟨sg, [], cx⟩ hw
  have hF : (lim C).call 12 [dDs sg, .d (.slc []), dL cx] [] = _ := hF
  have zd := size_room (t := d.t) (by omega)
  have hq := light_spec d.t 300 60 zd
  have hed := (enc_eq d.t).symm
  have hde := encD_fold d
  refine ⟨[], ?_⟩
  rw [ev_fn 5 Try.f5 _ _ _ rfl Try.func5 rfl Try.ntmps5 rfl]
  cases k1 : fewW ⟨sg, [], cx⟩
  · simp -implicitDefEqProofs (disch := decide +kernel) only [go_sem, ↓reduceIte, Nat.reduceSub, Nat.reduceAdd, Nat.reduceMul, Nat.reduceBEq, Nat.reduceLT, Nat.reduceLeDiff, Nat.reduceEqDiff, reduceCtorEq, Int.reduceToNat, Int.reduceLE, Int.reduceLT, Int.reduceBEq, Int.reduceBNe, mCall, hA, hF, hq, cells_encD, hed, hde, k1]
  · skip
    cases k2 : lightB d.t 300 60
    · simp -implicitDefEqProofs (disch := decide +kernel) only [go_sem, ↓reduceIte, Nat.reduceSub, Nat.reduceAdd, Nat.reduceMul, Nat.reduceBEq, Nat.reduceLT, Nat.reduceLeDiff, Nat.reduceEqDiff, reduceCtorEq, Int.reduceToNat, Int.reduceLE, Int.reduceLT, Int.reduceBEq, Int.reduceBNe, mCall, hA, hF, hq, cells_encD, hed, hde, k1, k2]
    · skip
      have hin := few_in hw k1
      obtain ⟨⟨l1, _⟩, _, l2, _⟩ := fewW_parts k1
      have l1 : sg.length ≤ 30 := l1
      have l2 : cx.length ≤ 60 := l2
      have hin0 := hin.cons (c := []) (by simp) (by show 0 < room; decide)
      have hin2 : WIn lowK ⟨sg ++ [d], [], []⟩ := by
        refine ⟨⟨by show 0 < room; decide, by simp, by simp; omega, fun x hx => ?_, by show 0 < room; decide, by simp⟩, hin.hk, hin.top, by simp, fun x hx => ?_, by simp⟩
        · rcases List.mem_append.1 hx with hx | hx
          · exact hw.sz x hx
          · obtain rfl : x = d := by simpa using hx
            exact zd
        · rcases List.mem_append.1 hx with hx | hx
          · exact hin.sig x hx
          · obtain rfl : x = d := by simpa using hx
            exact light_vle k2
      obtain ⟨h1, c1⟩ := wCtx_spec hin0 cx hw.cz (by show 0 + _ < room; omega)
      obtain ⟨h2, c2⟩ := wCtx_spec hin2 cx hw.cz (by show 0 + _ < room; omega)
      have c1 : (lim C).call 14 [dDs sg, .d (.slc []), .d (.slc []), dL cx] [] = some (.ret (dI (CtxWR (Wo.wd ⟨sg, [], []⟩) [] cx)), h1) := c1
      have c2 : (lim C).call 14 [.d (.slc (encDs (sg ++ [d]))), .d (.slc []), .d (.slc []), dL cx] [] = some (.ret (dI (CtxWR (Wo.wd ⟨sg ++ [d], [], []⟩) [] cx)), h2) := c2
      have hds : encDs (sg ++ [d]) = encDs sg ++ [encD d] := by rw [encDs_append]; rfl
      rw [hds] at c2
      by_cases h0 : CtxWR (Wo.wd ⟨sg, [], []⟩) [] cx = 0
      · rw [h0] at c1
        have h00 : ((0 : Int) != 0) = false := rfl
        have hres := ctx_more (ext_app sg [d] [] [] []) h0
        have hres : CtxWR (Wo.wd ⟨sg ++ [d], [], []⟩) [] cx = 0 ∨ CtxWR (Wo.wd ⟨sg ++ [d], [], []⟩) [] cx = 1 := hres
        generalize CtxWR (Wo.wd ⟨sg ++ [d], [], []⟩) [] cx = e at c2 hres
        have a1 := fun locs heap => app_anyG (encDs sg) 4 rfl [] locs heap (by rw [encDs_length]; omega) (encDs_all _)
        have a2 := fun locs heap => app_any2G (encDs sg) [encD d] 4 rfl [] locs heap (by rw [encDs_length]; simp; omega) (encDs_all _) (by simp [encD_width])
        simp only [List.length_nil, encDs_length] at a1 a2
        have hae := fun t xs => acc_erase t xs
        have hap := fun t xs => acc_pure t xs
        have hak := fun t xs => acc_keep t xs
        have h01 : ((0 : Int) == 0) = true := rfl
        have h10 : ((1 : Int) == 0) = false := rfl
        have h11 : ((1 : Int) == 1) = true := rfl
        rcases hres with rfl | rfl
        · simp -implicitDefEqProofs (disch := decide +kernel) only [go_sem, ↓reduceIte, Nat.reduceSub, Nat.reduceAdd, Nat.reduceMul, Nat.reduceBEq, Nat.reduceLT, Nat.reduceLeDiff, Nat.reduceEqDiff, reduceCtorEq, Int.reduceToNat, Int.reduceLE, Int.reduceLT, Int.reduceBEq, Int.reduceBNe, mCall, hA, hF, hq, cells_encD, hed, hde, k1, k2, c1, h00, a1, a2, hae, hap, hak, c2, h01]
        · simp -implicitDefEqProofs (disch := decide +kernel) only [go_sem, ↓reduceIte, Nat.reduceSub, Nat.reduceAdd, Nat.reduceMul, Nat.reduceBEq, Nat.reduceLT, Nat.reduceLeDiff, Nat.reduceEqDiff, reduceCtorEq, Int.reduceToNat, Int.reduceLE, Int.reduceLT, Int.reduceBEq, Int.reduceBNe, mCall, hA, hF, hq, cells_encD, hed, hde, k1, k2, c1, h00, a1, a2, hae, hap, hak, c2, h10, h11]
      · have h0' : (CtxWR (Wo.wd ⟨sg, [], []⟩) [] cx != 0) = true := by simpa using h0
        simp -implicitDefEqProofs (disch := decide +kernel) only [go_sem, ↓reduceIte, Nat.reduceSub, Nat.reduceAdd, Nat.reduceMul, Nat.reduceBEq, Nat.reduceLT, Nat.reduceLeDiff, Nat.reduceEqDiff, reduceCtorEq, Int.reduceToNat, Int.reduceLE, Int.reduceLT, Int.reduceBEq, Int.reduceBNe, mCall, hA, hF, hq, cells_encD, hed, hde, k1, k2, c1, h0']
end Go.Proofs.Ytbcoacljjhbonaa
/- Laws of layer 11: WorldConforms, WorldBegins. -/
set_option linter.unusedSimpArgs false
set_option linter.unusedVariables false
set_option maxRecDepth 100000
namespace Go.Proofs.Ytbcoacljjhbonaa
open Go.Proofs
theorem has_mem {sc : List Tm} {a : Tm} (h : hasB sc a = true) : a ∈ sc := by
  unfold hasB at h
  rw [Bool.not_eq_true'] at h
  obtain ⟨j, hj, h1, _⟩ := allB_first _ _ h
  rw [Bool.not_eq_false'] at h1
  rw [← same_eq _ _ h1]
  exact getD_mem hj
theorem mem_has {sc : List Tm} {a : Tm} (h : a ∈ sc) : hasB sc a = true := by
  unfold hasB
  rw [Bool.not_eq_true']
  cases he : allB sc.length fun i => !sameB (sc.getD i default) a
  · rfl
  · rw [allB_iff] at he
    obtain ⟨i, hi, rfl⟩ := List.mem_iff_getElem.1 h
    have := he i hi
    rw [List.getD_eq_getElem?_getD, List.getElem?_eq_getElem hi] at this
    simp [sameB_refl] at this
theorem conf_iff {sc l : List Tm} : ConfB sc l = true ↔ ∀ x ∈ l, x ∈ sc := by
  unfold ConfB
  rw [allB_iff]
  constructor
  · intro h x hx
    obtain ⟨i, hi, rfl⟩ := List.mem_iff_getElem.1 hx
    have := has_mem (h i hi)
    rwa [List.getD_eq_getElem?_getD, List.getElem?_eq_getElem hi] at this
  · exact fun h i hi => mem_has (h _ (getD_mem hi))
theorem Ext.self' (w : Wd) : Ext w w := ⟨Nat.le_refl _, fun _ _ => rfl, Nat.le_refl _, fun _ _ => rfl⟩
theorem conf_ctx {sg : List Dc} {sc cx : List Tm} (h1 : ConfB sc cx = true) (h2 : SchemaR (Wo.wd ⟨sg, [], []⟩) sc = 0) (hl : cx.length ≤ 40) : CtxWR (Wo.wd ⟨sg, [], []⟩) [] cx = 0 := by
  rw [conf_iff] at h1
  obtain ⟨_, hs⟩ := first_ok h2
  have key : ∀ x ∈ cx, TypR (Wo.wd ⟨sg, [], []⟩) [] x = 0 := fun x hx => by
    obtain ⟨i, hi, rfl⟩ := List.mem_iff_getElem.1 (h1 x hx)
    have := hs i hi
    unfold schW at this
    rw [List.getD_eq_getElem?_getD, List.getElem?_eq_getElem hi] at this
    simp only [Option.getD_some] at this
    by_cases hk : sc[i].kind ≠ 2
    · rw [if_pos hk] at this; cases this
    · rw [if_neg hk] at this; exact this
  have hm : ∀ x ∈ cx, mayB x = true := fun x hx => mayW_of (TypR_ok (key x hx)).1 x (by simp)
  unfold CtxWR
  rw [first_all hl fun j hj => ?_]
  have hx := getD_mem (a := cx) hj
  obtain ⟨p1, p2⟩ := TypR_ok (key _ hx)
  unfold ctxW TypR
  have hmw : mayW (Wo.wd ⟨sg, [], []⟩) ([] ++ cx.take j) [cx.getD j default] = true := by
    unfold mayW at p1 ⊢
    simp only [Bool.and_eq_true, Bool.not_eq_true', decide_eq_false_iff_not] at p1 ⊢
    exact ⟨⟨⟨⟨by simp; omega, p1.1.1.1.2⟩, maysB_iff.2 fun x hx => hm x (List.mem_of_mem_take hx)⟩, p1.1.2⟩, p1.2⟩
  rw [hmw, if_pos rfl]
  have hf := front_app (cx.take j) []
  rw [List.append_nil] at hf
  exact typ_ext (Ext.self' _) _ [] _ (may_parts (hm _ hx)).1 hf (.inr rfl) p2
set_option maxHeartbeats 8000000 in
theorem worldConforms_holds (sg : List Dc) (wsg : ∀ t ∈ sg, Wf t.t) (hsg : dsum sg + 1 ≤ 1048576) (sc : List Tm) (wsc : ∀ t ∈ sc, Wf t) (hsc : (sc.map Tm.size).sum + 1 ≤ 1048576) (cx : List Tm) (wcx : ∀ t ∈ cx, Wf t) (hcx : (cx.map Tm.size).sum + 1 ≤ 1048576) (a : Tm) (wa : Wf a) (ha : a.size ≤ 1048576) :
    ∃ h, (lim C).call 6 [dDs sg, dL sc, dL cx, dT a] [] = some (.ret (dB true), h) := by
  have hr : room = 1099511627776 := rfl
  have hA := awake11_spec
  have hw := wsz_of (ms := []) hsg (by simp [msum]) hcx
  have hF := fewW_spec ⟨sg, [], cx⟩ hw
  have hF : (lim C).call 12 [dDs sg, .d (.slc []), dL cx] [] = _ := hF
  obtain ⟨ls, zs⟩ := lists_room hsc
  have za := size_room ha
  have hq := lights_spec sc 500 80 ls zs
  have hea := (enc_eq a).symm
  obtain ⟨h1, c1⟩ := wConf_spec sc cx ls zs hw.cl
  have c1 : (lim C).call 11 [dL sc, dL cx] [] = some (.ret (dB (ConfB sc cx)), h1) := c1
  refine ⟨[], ?_⟩
  rw [ev_fn 6 Try.f6 _ _ _ rfl Try.func6 rfl Try.ntmps6 rfl]
  cases k1 : fewW ⟨sg, [], cx⟩
  · simp -implicitDefEqProofs (disch := decide +kernel) only [go_sem, ↓reduceIte, Nat.reduceSub, Nat.reduceAdd, Nat.reduceMul, Nat.reduceBEq, Nat.reduceLT, Nat.reduceLeDiff, Nat.reduceEqDiff, reduceCtorEq, Int.reduceToNat, Int.reduceLE, Int.reduceLT, Int.reduceBEq, Int.reduceBNe, mCall, hA, hF, hq, cells_enc, cel3, hea, k1]
  · skip
    cases k2 : lightsB sc 500 80
    · simp -implicitDefEqProofs (disch := decide +kernel) only [go_sem, ↓reduceIte, Nat.reduceSub, Nat.reduceAdd, Nat.reduceMul, Nat.reduceBEq, Nat.reduceLT, Nat.reduceLeDiff, Nat.reduceEqDiff, reduceCtorEq, Int.reduceToNat, Int.reduceLE, Int.reduceLT, Int.reduceBEq, Int.reduceBNe, mCall, hA, hF, hq, cells_enc, cel3, hea, k1, k2]
    · skip
      cases k3 : decide ((cx.length : Int) > 40)
      rotate_left
      · simp -implicitDefEqProofs (disch := decide +kernel) only [go_sem, ↓reduceIte, Nat.reduceSub, Nat.reduceAdd, Nat.reduceMul, Nat.reduceBEq, Nat.reduceLT, Nat.reduceLeDiff, Nat.reduceEqDiff, reduceCtorEq, Int.reduceToNat, Int.reduceLE, Int.reduceLT, Int.reduceBEq, Int.reduceBNe, mCall, hA, hF, hq, cells_enc, cel3, hea, k1, k2, k3]
      have k3' : ¬ (cx.length : Int) > 40 := by simpa using k3
      have hin := few_in hw k1
      have hin0 := hin.cons (c := []) (by simp) (by show 0 < room; decide)
      have hsl := (lights_parts k2).1
      obtain ⟨h2, c2⟩ := wSchema_spec hin0 sc zs ls
      have c2 : (lim C).call 16 [dDs sg, dL sc] [] = some (.ret (dI (SchemaR (Wo.wd ⟨sg, [], []⟩) sc)), h2) := c2
      cases k4 : ConfB sc cx
      · rw [k4] at c1
        simp -implicitDefEqProofs (disch := decide +kernel) only [go_sem, ↓reduceIte, Nat.reduceSub, Nat.reduceAdd, Nat.reduceMul, Nat.reduceBEq, Nat.reduceLT, Nat.reduceLeDiff, Nat.reduceEqDiff, reduceCtorEq, Int.reduceToNat, Int.reduceLE, Int.reduceLT, Int.reduceBEq, Int.reduceBNe, mCall, hA, hF, hq, cells_enc, cel3, hea, k1, k2, k3, c1]
      · have kc := k4
        rw [k4] at c1
        by_cases k5 : SchemaR (Wo.wd ⟨sg, [], []⟩) sc = 0
        · rw [k5] at c2
          have h00 : ((0 : Int) != 0) = false := rfl
          have h01 : ((0 : Int) == 0) = true := rfl
          obtain ⟨h3, c3⟩ := wCtx_spec hin0 cx hw.cz (by show 0 + _ < room; omega)
          have c3 : (lim C).call 14 [dDs sg, .d (.slc []), .d (.slc []), dL cx] [] = some (.ret (dI (CtxWR (Wo.wd ⟨sg, [], []⟩) [] cx)), h3) := c3
          rw [conf_ctx kc k5 (by omega)] at c3
          have hz4 : ∀ x ∈ sc ++ [a], x.size < room := fun x hx => by
            rcases List.mem_append.1 hx with hx | hx
            · exact zs x hx
            · obtain rfl : x = a := by simpa using hx
              exact za
          obtain ⟨h4, c4⟩ := wConf_spec (sc ++ [a]) cx (by simp; omega) hz4 hw.cl
          have e4 : ConfB (sc ++ [a]) cx = true := conf_iff.2 fun x hx => List.mem_append_left _ (conf_iff.1 kc x hx)
          rw [e4] at c4
          have c4 : (lim C).call 11 [.d (.slc (encs (sc ++ [a]))), dL cx] [] = some (.ret (dB true), h4) := c4
          have ha1 := fun locs heap => app_first (encs sc) 3 locs heap (by rw [encs_length]; omega) (encs_all _)
          have ha2 := fun locs heap => app_more (encs sc) [enc a] 3 (by simp) locs heap (by rw [encs_length]; simp; omega) (encs_all _) (by simp [enc_width])
          have hz : encs sc ++ [enc a] = encs (sc ++ [a]) := by rw [encs_append]; rfl
          simp only [encs_length, hz] at ha1 ha2
          cases k6 : ((cx.length : Int) == 0)
          · simp -implicitDefEqProofs (disch := decide +kernel) only [go_sem, ↓reduceIte, Nat.reduceSub, Nat.reduceAdd, Nat.reduceMul, Nat.reduceBEq, Nat.reduceLT, Nat.reduceLeDiff, Nat.reduceEqDiff, reduceCtorEq, Int.reduceToNat, Int.reduceLE, Int.reduceLT, Int.reduceBEq, Int.reduceBNe, mCall, hA, hF, hq, cells_enc, cel3, hea, k1, k2, k3, c1, c2, c3, c4, h00, h01, k6, ha1, ha2]
          · simp -implicitDefEqProofs (disch := decide +kernel) only [go_sem, ↓reduceIte, Nat.reduceSub, Nat.reduceAdd, Nat.reduceMul, Nat.reduceBEq, Nat.reduceLT, Nat.reduceLeDiff, Nat.reduceEqDiff, reduceCtorEq, Int.reduceToNat, Int.reduceLE, Int.reduceLT, Int.reduceBEq, Int.reduceBNe, mCall, hA, hF, hq, cells_enc, cel3, hea, k1, k2, k3, c1, c2, c3, c4, h00, h01, k6, ha1, ha2]
        · have k5' : (SchemaR (Wo.wd ⟨sg, [], []⟩) sc != 0) = true := by simpa using k5
          simp -implicitDefEqProofs (disch := decide +kernel) only [go_sem, ↓reduceIte, Nat.reduceSub, Nat.reduceAdd, Nat.reduceMul, Nat.reduceBEq, Nat.reduceLT, Nat.reduceLeDiff, Nat.reduceEqDiff, reduceCtorEq, Int.reduceToNat, Int.reduceLE, Int.reduceLT, Int.reduceBEq, Int.reduceBNe, mCall, hA, hF, hq, cells_enc, cel3, hea, k1, k2, k3, c1, c2, k5']
theorem sigW_take {sg : List Dc} {n j : Nat} (hj : j < n) (hn : n ≤ sg.length) : sigW (sg.take n) j = sigW sg j := by
  have h1 : Dcs.at (sg.take n) j = Dcs.at sg j := by
    simp only [Dcs.at, List.getD_eq_getElem?_getD, List.getElem?_take, if_pos hj]
  have h2 : (sg.take n).take j = sg.take j := by rw [List.take_take]; congr 1; omega
  unfold sigW
  rw [h1, h2]
theorem sig_begins {sg : List Dc} {n : Nat} (hn : n ≤ sg.length) (hl : sg.length ≤ 40) :
    ((SigR sg).2 = 0 → (SigR (sg.take n)).2 = 0) ∧ ((SigR sg).2 ≠ 0 → (SigR sg).1 < n → SigR (sg.take n) = SigR sg) ∧ ((SigR sg).2 ≠ 0 → (n : Int) ≤ (SigR sg).1 → (SigR (sg.take n)).2 = 0) := by
  have hlt : (sg.take n).length = n := by simp; omega
  have hW : ∀ j, j < n → sigW (sg.take n) j = sigW sg j := fun j hj => sigW_take hj hn
  rcases first_cases (sigW sg) hl with ⟨h1, e⟩ | ⟨j, h1, h2, h3, e⟩
  · have hz : SigR (sg.take n) = (0, 0) := first_all (by omega) fun j hj => by rw [hW j (by omega)]; exact h1 j (by omega)
    have e : SigR sg = (0, 0) := e
    exact ⟨fun _ => by rw [hz], fun h => by rw [e] at h; exact absurd rfl h, fun h => by rw [e] at h; exact absurd rfl h⟩
  · have e : SigR sg = ((j : Int), sigW sg j) := e
    refine ⟨fun h => by rw [e] at h; exact absurd h h2, fun _ h => ?_, fun _ h => ?_⟩
    · rw [e] at h
      have h : (j : Int) < n := h
      rcases first_cases (sigW (sg.take n)) (n := (sg.take n).length) (by omega) with ⟨q1, _⟩ | ⟨j', q1, q2, q3, e'⟩
      · exact absurd ((hW j (by omega)).symm.trans (q1 j (by omega))) h2
      · have hjj : j' = j := by
          rcases Nat.lt_trichotomy j' j with q | q | q
          · exact absurd ((hW j' (by omega)).trans (h3 j' q)) q2
          · exact q
          · exact absurd ((hW j (by omega)).symm.trans (q3 j q)) h2
        subst hjj
        have e' : SigR (sg.take n) = ((j' : Int), sigW (sg.take n) j') := e'
        rw [e', e, hW j' (by omega)]
    · rw [e] at h
      have h : (n : Int) ≤ j := h
      have hz : SigR (sg.take n) = (0, 0) := first_all (by omega) fun i hi => by rw [hW i (by omega)]; exact h3 i (by omega)
      rw [hz]
theorem ctx_begins {w : Wd} {cx : List Tm} {m : Nat} (hm : m ≤ cx.length) (h : CtxWR w [] cx = 0) : CtxWR w [] (cx.take m) = 0 ∧ CtxWR w (cx.take m) (cx.drop m) = 0 := by
  obtain ⟨hl, ha⟩ := first_ok h
  constructor
  · unfold CtxWR
    rw [first_all (by simp; omega) fun j hj => ?_]
    simp only [List.length_take] at hj
    have := ha j (by omega)
    unfold ctxW at this ⊢
    rw [List.take_take, show min j m = j by omega]
    have hg : (cx.take m).getD j default = cx.getD j default := by
      rw [List.getD_eq_getElem?_getD, List.getD_eq_getElem?_getD, List.getElem?_take, if_pos (by omega)]
    rw [hg]; exact this
  · unfold CtxWR
    rw [first_all (by simp; omega) fun j hj => ?_]
    simp only [List.length_drop] at hj
    have := ha (m + j) (by omega)
    unfold ctxW at this ⊢
    have hg : (cx.drop m).getD j default = cx.getD (m + j) default := by
      rw [List.getD_eq_getElem?_getD, List.getD_eq_getElem?_getD, List.getElem?_drop]
    have ht : cx.take m ++ (cx.drop m).take j = cx.take (m + j) := (List.take_add).symm
    rw [hg, ht]; exact this
set_option maxHeartbeats 16000000 in
theorem worldBegins_holds (sg : List Dc) (wsg : ∀ t ∈ sg, Wf t.t) (hsg : dsum sg + 1 ≤ 1048576) (cx : List Tm) (wcx : ∀ t ∈ cx, Wf t) (hcx : (cx.map Tm.size).sum + 1 ≤ 1048576) (n : Int) (jn : in64 n) :
    ∃ h, (lim C).call 4 [dDs sg, dL cx, dI n] [] = some (.ret (dB true), h) := by
  have hr : room = 1099511627776 := rfl
  have hA := awake11_spec
  have hw := wsz_of (ms := []) hsg (by simp [msum]) hcx
  have hF := fewW_spec ⟨sg, [], cx⟩ hw
  have hF : (lim C).call 12 [dDs sg, .d (.slc []), dL cx] [] = _ := hF
  refine ⟨[], ?_⟩
  rw [ev_fn 4 Try.f4 _ _ _ rfl Try.func4 rfl Try.ntmps4 rfl]
  cases k1 : fewW ⟨sg, [], cx⟩
  · simp -implicitDefEqProofs (disch := decide +kernel) only [go_sem, ↓reduceIte, Nat.reduceSub, Nat.reduceAdd, Nat.reduceMul, Nat.reduceBEq, Nat.reduceLT, Nat.reduceLeDiff, Nat.reduceEqDiff, reduceCtorEq, Int.reduceToNat, Int.reduceLE, Int.reduceLT, Int.reduceBEq, Int.reduceBNe, mCall, hA, hF, k1]
  · skip
    cases k2 : decide (n < 0)
    rotate_left
    · simp -implicitDefEqProofs (disch := decide +kernel) only [go_sem, ↓reduceIte, Nat.reduceSub, Nat.reduceAdd, Nat.reduceMul, Nat.reduceBEq, Nat.reduceLT, Nat.reduceLeDiff, Nat.reduceEqDiff, reduceCtorEq, Int.reduceToNat, Int.reduceLE, Int.reduceLT, Int.reduceBEq, Int.reduceBNe, mCall, hA, hF, k1, k2]
    cases k3 : decide (n > (sg.length : Int))
    rotate_left
    · simp -implicitDefEqProofs (disch := decide +kernel) only [go_sem, ↓reduceIte, Nat.reduceSub, Nat.reduceAdd, Nat.reduceMul, Nat.reduceBEq, Nat.reduceLT, Nat.reduceLeDiff, Nat.reduceEqDiff, reduceCtorEq, Int.reduceToNat, Int.reduceLE, Int.reduceLT, Int.reduceBEq, Int.reduceBNe, mCall, hA, hF, k1, k2, k3]
    cases k4 : decide ((sg.length : Int) > 40)
    rotate_left
    · simp -implicitDefEqProofs (disch := decide +kernel) only [go_sem, ↓reduceIte, Nat.reduceSub, Nat.reduceAdd, Nat.reduceMul, Nat.reduceBEq, Nat.reduceLT, Nat.reduceLeDiff, Nat.reduceEqDiff, reduceCtorEq, Int.reduceToNat, Int.reduceLE, Int.reduceLT, Int.reduceBEq, Int.reduceBNe, mCall, hA, hF, k1, k2, k3, k4]
    cases k5 : decide ((cx.length : Int) > 40)
    rotate_left
    · simp -implicitDefEqProofs (disch := decide +kernel) only [go_sem, ↓reduceIte, Nat.reduceSub, Nat.reduceAdd, Nat.reduceMul, Nat.reduceBEq, Nat.reduceLT, Nat.reduceLeDiff, Nat.reduceEqDiff, reduceCtorEq, Int.reduceToNat, Int.reduceLE, Int.reduceLT, Int.reduceBEq, Int.reduceBNe, mCall, hA, hF, k1, k2, k3, k4, k5]
    have k2' : ¬ n < 0 := by simpa using k2
    have k3' : ¬ n > (sg.length : Int) := by simpa using k3
    have k4' : ¬ (sg.length : Int) > 40 := by simpa using k4
    have k5' : ¬ (cx.length : Int) > 40 := by simpa using k5
    have hin := few_in hw k1
    have hin0 := hin.cons (c := []) (by simp) (by show 0 < room; decide)
    obtain ⟨m, rfl⟩ : ∃ m : Nat, n = m := ⟨n.toNat, by omega⟩
    have hw0 : WSz ⟨sg, [], []⟩ := ⟨by show 0 < room; decide, by simp, hw.sl, hw.sz, by show 0 < room; decide, by simp⟩
    have hw1 : WSz ⟨sg.take m, [], []⟩ := ⟨by show 0 < room; decide, by simp, by simp; omega, fun d hd => hw.sz d (List.mem_of_mem_take hd), by show 0 < room; decide, by simp⟩
    obtain ⟨h1, c1⟩ := wSig_spec sg hw0
    obtain ⟨h2, c2⟩ := wSig_spec (sg.take m) hw1
    have c2 : (lim C).call 13 [.d (.slc (encDs (sg.take m)))] [] = some (.ret (.tup [dI (SigR (sg.take m)).1, dI (SigR (sg.take m)).2]), h2) := c2
    rw [encDs_take] at c2
    obtain ⟨b1, b2, b3⟩ := sig_begins (n := m) (show m ≤ sg.length by omega) (show sg.length ≤ 40 by omega)
    have hle : m ≤ sg.length := by omega
    obtain ⟨M, hM⟩ : ∃ M : Nat, M = min m cx.length := ⟨_, rfl⟩
    have hMl : M ≤ cx.length := by omega
    obtain ⟨h3, c3⟩ := wCtx_spec hin0 cx hw.cz (by show 0 + _ < room; omega)
    have c3 : (lim C).call 14 [dDs sg, .d (.slc []), .d (.slc []), dL cx] [] = some (.ret (dI (CtxWR (Wo.wd ⟨sg, [], []⟩) [] cx)), h3) := c3
    obtain ⟨h4, c4⟩ := wCtx_spec hin0 (cx.take M) (fun x hx => hw.cz x (List.mem_of_mem_take hx)) (by show 0 + _ < room; simp; omega)
    have c4 : (lim C).call 14 [dDs sg, .d (.slc []), .d (.slc []), .d (.slc (encs (cx.take M)))] [] = some (.ret (dI (CtxWR (Wo.wd ⟨sg, [], []⟩) [] (cx.take M))), h4) := c4
    have hin4 := hin.cons (c := cx.take M) (fun x hx => ⟨hw.cz x (List.mem_of_mem_take hx), hin.ctx x (List.mem_of_mem_take hx)⟩) (by simp; omega)
    obtain ⟨h5, c5⟩ := wCtx_spec hin4 (cx.drop M) (fun x hx => hw.cz x (List.mem_of_mem_drop hx)) (by simp; omega)
    have c5 : (lim C).call 14 [dDs sg, .d (.slc []), .d (.slc (encs (cx.take M))), .d (.slc (encs (cx.drop M)))] [] = some (.ret (dI (CtxWR (Wo.wd ⟨sg, [], []⟩) (cx.take M) (cx.drop M))), h5) := c5
    rw [encs_take] at c4 c5
    rw [encs_drop] at c5
    have hcb := fun h => ctx_begins (w := Wo.wd ⟨sg, [], []⟩) hMl h
    have h00 : ((0 : Int) != 0) = false := rfl
    have h01 : ((0 : Int) == 0) = true := rfl
    have htk : (encs cx).take cx.length = encs cx := by rw [← encs_length, List.take_length]
    -- what is told of contexts, at the end
    have hend : ∀ (b : Bool), decide ((m : Int) > cx.length) = b → M = (if b then cx.length else m) := fun b hb => by
      cases b
      · have : ¬ (m : Int) > cx.length := by simpa using hb
        rw [hM]; simp; omega
      · have : (m : Int) > cx.length := by simpa using hb
        rw [hM]; simp; omega
    generalize hq1 : SigR sg = q1 at c1 b1 b2 b3
    generalize hq2 : SigR (sg.take m) = q2 at c2 b1 b2 b3
    obtain ⟨i, e⟩ := q1
    obtain ⟨k, f⟩ := q2
    simp only at b1 b2 b3
    have hcz : ∀ (X : Int), CtxWR (Wo.wd ⟨sg, [], []⟩) [] cx = X → X ≠ 0 → (X != 0) = true := fun X _ h => by simpa using h
    by_cases hc0 : CtxWR (Wo.wd ⟨sg, [], []⟩) [] cx = 0
    · obtain ⟨d1, d2⟩ := hcb hc0
      rw [hc0] at c3
      rw [d1] at c4
      rw [d2] at c5
      by_cases he : e = 0
      · subst he
        have hf := b1 rfl
        subst hf
        cases k6 : decide ((m : Int) > cx.length)
        · have hMm := hend _ k6
          simp only [Bool.false_eq_true, if_false] at hMm
          rw [hMm] at c4 c5 hMl
          simp -implicitDefEqProofs (disch := decide +kernel) only [go_sem, ↓reduceIte, Nat.reduceSub, Nat.reduceAdd, Nat.reduceMul, Nat.reduceBEq, Nat.reduceLT, Nat.reduceLeDiff, Nat.reduceEqDiff, reduceCtorEq, Int.reduceToNat, Int.reduceLE, Int.reduceLT, Int.reduceBEq, Int.reduceBNe, mCall, hA, hF, k1, k2, k3, k4, k5, c1, c2, c3, c4, c5, h00, h01, k6, Nat.zero_le, hle, hMl, encDs_all, encs_all, htk, Nat.le_refl]
        · have hMm := hend _ k6
          simp only [if_true] at hMm
          rw [hMm] at c4 c5 hMl
          rw [htk] at c4 c5
          simp -implicitDefEqProofs (disch := decide +kernel) only [go_sem, ↓reduceIte, Nat.reduceSub, Nat.reduceAdd, Nat.reduceMul, Nat.reduceBEq, Nat.reduceLT, Nat.reduceLeDiff, Nat.reduceEqDiff, reduceCtorEq, Int.reduceToNat, Int.reduceLE, Int.reduceLT, Int.reduceBEq, Int.reduceBNe, mCall, hA, hF, k1, k2, k3, k4, k5, c1, c2, c3, c4, c5, h00, h01, k6, Nat.zero_le, hle, hMl, encDs_all, encs_all, htk, Nat.le_refl]
      · have he1 : (e != 0) = true := by simpa using he
        have he2 : (e == 0) = false := by simpa using he
        cases k7 : decide (i < (m : Int))
        · have hge : (m : Int) ≤ i := by have : ¬ i < (m : Int) := by simpa using k7
                                         omega
          have k8 : decide (i ≥ (m : Int)) = true := by simpa using hge
          have hf := b3 he hge
          subst hf
          cases k6 : decide ((m : Int) > cx.length)
          · have hMm := hend _ k6
            simp only [Bool.false_eq_true, if_false] at hMm
            rw [hMm] at c4 c5 hMl
            simp -implicitDefEqProofs (disch := decide +kernel) only [go_sem, ↓reduceIte, Nat.reduceSub, Nat.reduceAdd, Nat.reduceMul, Nat.reduceBEq, Nat.reduceLT, Nat.reduceLeDiff, Nat.reduceEqDiff, reduceCtorEq, Int.reduceToNat, Int.reduceLE, Int.reduceLT, Int.reduceBEq, Int.reduceBNe, mCall, hA, hF, k1, k2, k3, k4, k5, c1, c2, c3, c4, c5, h00, h01, k6, k7, k8, he1, he2, Nat.zero_le, hle, hMl, encDs_all, encs_all, htk, Nat.le_refl]
          · have hMm := hend _ k6
            simp only [if_true] at hMm
            rw [hMm] at c4 c5 hMl
            rw [htk] at c4 c5
            simp -implicitDefEqProofs (disch := decide +kernel) only [go_sem, ↓reduceIte, Nat.reduceSub, Nat.reduceAdd, Nat.reduceMul, Nat.reduceBEq, Nat.reduceLT, Nat.reduceLeDiff, Nat.reduceEqDiff, reduceCtorEq, Int.reduceToNat, Int.reduceLE, Int.reduceLT, Int.reduceBEq, Int.reduceBNe, mCall, hA, hF, k1, k2, k3, k4, k5, c1, c2, c3, c4, c5, h00, h01, k6, k7, k8, he1, he2, Nat.zero_le, hle, hMl, encDs_all, encs_all, htk, Nat.le_refl]
        · have hlt : i < (m : Int) := by simpa using k7
          have k8 : decide (i ≥ (m : Int)) = false := by simp; omega
          have hkf := b2 he hlt
          obtain ⟨rfl, rfl⟩ : k = i ∧ f = e := ⟨congrArg Prod.fst hkf, congrArg Prod.snd hkf⟩
          have hii : (k != k) = false := by simp
          have hee : (f != f) = false := by simp
          cases k6 : decide ((m : Int) > cx.length)
          · have hMm := hend _ k6
            simp only [Bool.false_eq_true, if_false] at hMm
            rw [hMm] at c4 c5 hMl
            simp -implicitDefEqProofs (disch := decide +kernel) only [go_sem, ↓reduceIte, Nat.reduceSub, Nat.reduceAdd, Nat.reduceMul, Nat.reduceBEq, Nat.reduceLT, Nat.reduceLeDiff, Nat.reduceEqDiff, reduceCtorEq, Int.reduceToNat, Int.reduceLE, Int.reduceLT, Int.reduceBEq, Int.reduceBNe, mCall, hA, hF, k1, k2, k3, k4, k5, c1, c2, c3, c4, c5, h00, h01, k6, k7, k8, he1, he2, hii, hee, Nat.zero_le, hle, hMl, encDs_all, encs_all, htk, Nat.le_refl]
          · have hMm := hend _ k6
            simp only [if_true] at hMm
            rw [hMm] at c4 c5 hMl
            rw [htk] at c4 c5
            simp -implicitDefEqProofs (disch := decide +kernel) only [go_sem, ↓reduceIte, Nat.reduceSub, Nat.reduceAdd, Nat.reduceMul, Nat.reduceBEq, Nat.reduceLT, Nat.reduceLeDiff, Nat.reduceEqDiff, reduceCtorEq, Int.reduceToNat, Int.reduceLE, Int.reduceLT, Int.reduceBEq, Int.reduceBNe, mCall, hA, hF, k1, k2, k3, k4, k5, c1, c2, c3, c4, c5, h00, h01, k6, k7, k8, he1, he2, hii, hee, Nat.zero_le, hle, hMl, encDs_all, encs_all, htk, Nat.le_refl]
    · have hc1 : (CtxWR (Wo.wd ⟨sg, [], []⟩) [] cx != 0) = true := by simpa using hc0
      by_cases he : e = 0
      · subst he
        have hf := b1 rfl
        subst hf
        cases k6 : decide ((m : Int) > cx.length)
        · simp -implicitDefEqProofs (disch := decide +kernel) only [go_sem, ↓reduceIte, Nat.reduceSub, Nat.reduceAdd, Nat.reduceMul, Nat.reduceBEq, Nat.reduceLT, Nat.reduceLeDiff, Nat.reduceEqDiff, reduceCtorEq, Int.reduceToNat, Int.reduceLE, Int.reduceLT, Int.reduceBEq, Int.reduceBNe, mCall, hA, hF, k1, k2, k3, k4, k5, c1, c2, c3, hc1, h00, h01, k6, Nat.zero_le, hle, encDs_all, encs_all]
        · simp -implicitDefEqProofs (disch := decide +kernel) only [go_sem, ↓reduceIte, Nat.reduceSub, Nat.reduceAdd, Nat.reduceMul, Nat.reduceBEq, Nat.reduceLT, Nat.reduceLeDiff, Nat.reduceEqDiff, reduceCtorEq, Int.reduceToNat, Int.reduceLE, Int.reduceLT, Int.reduceBEq, Int.reduceBNe, mCall, hA, hF, k1, k2, k3, k4, k5, c1, c2, c3, hc1, h00, h01, k6, Nat.zero_le, hle, encDs_all, encs_all]
      · have he1 : (e != 0) = true := by simpa using he
        have he2 : (e == 0) = false := by simpa using he
        cases k7 : decide (i < (m : Int))
        · have hge : (m : Int) ≤ i := by have : ¬ i < (m : Int) := by simpa using k7
                                         omega
          have k8 : decide (i ≥ (m : Int)) = true := by simpa using hge
          have hf := b3 he hge
          subst hf
          cases k6 : decide ((m : Int) > cx.length)
          · simp -implicitDefEqProofs (disch := decide +kernel) only [go_sem, ↓reduceIte, Nat.reduceSub, Nat.reduceAdd, Nat.reduceMul, Nat.reduceBEq, Nat.reduceLT, Nat.reduceLeDiff, Nat.reduceEqDiff, reduceCtorEq, Int.reduceToNat, Int.reduceLE, Int.reduceLT, Int.reduceBEq, Int.reduceBNe, mCall, hA, hF, k1, k2, k3, k4, k5, c1, c2, c3, hc1, h00, h01, k6, k7, k8, he1, he2, Nat.zero_le, hle, encDs_all, encs_all]
          · simp -implicitDefEqProofs (disch := decide +kernel) only [go_sem, ↓reduceIte, Nat.reduceSub, Nat.reduceAdd, Nat.reduceMul, Nat.reduceBEq, Nat.reduceLT, Nat.reduceLeDiff, Nat.reduceEqDiff, reduceCtorEq, Int.reduceToNat, Int.reduceLE, Int.reduceLT, Int.reduceBEq, Int.reduceBNe, mCall, hA, hF, k1, k2, k3, k4, k5, c1, c2, c3, hc1, h00, h01, k6, k7, k8, he1, he2, Nat.zero_le, hle, encDs_all, encs_all]
        · have hlt : i < (m : Int) := by simpa using k7
          have k8 : decide (i ≥ (m : Int)) = false := by simp; omega
          have hkf := b2 he hlt
          obtain ⟨rfl, rfl⟩ : k = i ∧ f = e := ⟨congrArg Prod.fst hkf, congrArg Prod.snd hkf⟩
          have hii : (k != k) = false := by simp
          have hee : (f != f) = false := by simp
          cases k6 : decide ((m : Int) > cx.length)
          · simp -implicitDefEqProofs (disch := decide +kernel) only [go_sem, ↓reduceIte, Nat.reduceSub, Nat.reduceAdd, Nat.reduceMul, Nat.reduceBEq, Nat.reduceLT, Nat.reduceLeDiff, Nat.reduceEqDiff, reduceCtorEq, Int.reduceToNat, Int.reduceLE, Int.reduceLT, Int.reduceBEq, Int.reduceBNe, mCall, hA, hF, k1, k2, k3, k4, k5, c1, c2, c3, hc1, h00, h01, k6, k7, k8, he1, he2, hii, hee, Nat.zero_le, hle, encDs_all, encs_all]
          · simp -implicitDefEqProofs (disch := decide +kernel) only [go_sem, ↓reduceIte, Nat.reduceSub, Nat.reduceAdd, Nat.reduceMul, Nat.reduceBEq, Nat.reduceLT, Nat.reduceLeDiff, Nat.reduceEqDiff, reduceCtorEq, Int.reduceToNat, Int.reduceLE, Int.reduceLT, Int.reduceBEq, Int.reduceBNe, mCall, hA, hF, k1, k2, k3, k4, k5, c1, c2, c3, hc1, h00, h01, k6, k7, k8, he1, he2, hii, hee, Nat.zero_le, hle, encDs_all, encs_all]
end Go.Proofs.Ytbcoacljjhbonaa
