/- subst: done, Apply, Spine. -/
import Derived.Test.YtmemmdfjlhamfaaF24
set_option linter.unusedSimpArgs false
set_option linter.unusedVariables false
set_option maxRecDepth 100000
namespace Go.Proofs.Ytmemmdfjlhamfaa
open Go.Proofs
theorem done0_eq (x : AV) (a b : HO) : done0 x [a, b] = mk 14 [(0, x), (2, .href 2 0), (3, .href 3 0), (4, .undef)] [] [a, b, .var 0 zTerm, .var 0 [dI 0]] [] := rfl
theorem doneX_eq (O : Orc) (x : AV) (heap : List HO) : doneX O [x] heap = (O.code 64 (cs (cs (bodyOf Try.f64))) (done0 x heap)).bind (doneEnd heap.length) := rfl
theorem doneEnd_ret (n : Nat) (σ : St) : doneEnd n (.ret, σ) = leave Try.prog Try.f64 (.ret, σ) := rfl
theorem doneEnd_pan (n : Nat) (e : Int) (σ : St) : doneEnd n (.pan (.iface 29 (.int .i64 e)), σ) = recK n e σ.mem.heap (σ.tmps.getD 2 .undef) (σ.tmps.getD 3 .undef) (σ.mem.heap[n]?) (σ.mem.heap[n + 1]?) := rfl
theorem recK_s (n : Nat) (e : Int) (h : List HO) (u v : Nat) (a b c d : AV) : recK n e h (.href n 0) (.href (n + 1) 0) (some (.var u [a, b, c])) (some (.var v [d])) = some (.ret (.tup [.d (.agg [.int .i64 0, .int .i64 0, .slc []]), .d (.int .i64 e)]), (h.set n (.var u zTerm)).set (n + 1) (.var v [.d (.int .i64 e)])) := by
  simp [recK]
/-- What done comes to. -/
def outD : R Tm → Tm × Int
  | .ok u m => if mayB u then (u, 0) else (zT, 4)
  | .er e m => (zT, e)
theorem done_ok {g : Nat} {a b : List AV} {u : Tm} {m : Nat} (hs : u.size < room) (hm : mayB u = true)
    (hdo : (lim C).call g [.href 4 0, .href 0 0, .href 1 0] [.var 0 a, .var 0 b, .var 0 zTerm, .var 0 [dI 0], .var 0 [dI 0]] = some (.ret (dT u), [.var 0 a, .var 0 b, .var 0 zTerm, .var 0 [dI 0], .var 0 [dI m]])) :
    (lim C).call 64 [.fn g [] [.href 0 0, .href 1 0]] [.var 0 a, .var 0 b] = some (.ret (.tup [dT u, dI 0]), [.var 0 a, .var 0 b, .var 0 (cel3 u), .var 0 [dI 0], .var 0 [dI m]]) := by
  have hma := tMay_spec u hs
  rw [hm] at hma
  rw [ev_ext (f := 64) (x := doneX) rfl, doneX_eq, done0_eq]
  unfold zTerm at hdo
  simp -implicitDefEqProofs (disch := decide +kernel) only [cf, cs, bodyOf, Try.f64, Option.getD_some, go_sem, ↓reduceIte, Nat.reduceSub, Nat.reduceAdd, Nat.reduceMul, Nat.reduceBEq, Nat.reduceLT, Nat.reduceLeDiff, Nat.reduceEqDiff, reduceCtorEq, Int.reduceToNat, Int.reduceLE, Int.reduceLT, Int.reduceBEq, Int.reduceBNe, mCall, zTerm, cells_enc, cel3, hdo, hma, doneEnd_ret, (enc_eq u).symm]
theorem done_big {g : Nat} {a b : List AV} {u : Tm} {m : Nat} (hs : u.size < room) (hm : mayB u = false)
    (hdo : (lim C).call g [.href 4 0, .href 0 0, .href 1 0] [.var 0 a, .var 0 b, .var 0 zTerm, .var 0 [dI 0], .var 0 [dI 0]] = some (.ret (dT u), [.var 0 a, .var 0 b, .var 0 zTerm, .var 0 [dI 0], .var 0 [dI m]])) :
    (lim C).call 64 [.fn g [] [.href 0 0, .href 1 0]] [.var 0 a, .var 0 b] = some (.ret (.tup [dT zT, dI 4]), [.var 0 a, .var 0 b, .var 0 zTerm, .var 0 [dI 4], .var 0 [dI m]]) := by
  have hma := tMay_spec u hs
  rw [hm] at hma
  rw [ev_ext (f := 64) (x := doneX) rfl, doneX_eq, done0_eq]
  unfold zTerm at hdo
  simp -implicitDefEqProofs (disch := decide +kernel) only [cf, cs, bodyOf, Try.f64, Option.getD_some, go_sem, ↓reduceIte, Nat.reduceSub, Nat.reduceAdd, Nat.reduceMul, Nat.reduceBEq, Nat.reduceLT, Nat.reduceLeDiff, Nat.reduceEqDiff, reduceCtorEq, Int.reduceToNat, Int.reduceLE, Int.reduceLT, Int.reduceBEq, Int.reduceBNe, mCall, zTerm, cells_enc, cel3, hdo, hma, fail_spec, doneEnd_pan, recK_s, zT_enc]
theorem done_er {g : Nat} {a b : List AV} {e m : Nat}
    (hdo : (lim C).call g [.href 4 0, .href 0 0, .href 1 0] [.var 0 a, .var 0 b, .var 0 zTerm, .var 0 [dI 0], .var 0 [dI 0]] = some (.pan (errV e), [.var 0 a, .var 0 b, .var 0 zTerm, .var 0 [dI 0], .var 0 [dI m]])) :
    (lim C).call 64 [.fn g [] [.href 0 0, .href 1 0]] [.var 0 a, .var 0 b] = some (.ret (.tup [dT zT, dI e]), [.var 0 a, .var 0 b, .var 0 zTerm, .var 0 [dI e], .var 0 [dI m]]) := by
  rw [ev_ext (f := 64) (x := doneX) rfl, doneX_eq, done0_eq]
  unfold zTerm at hdo
  simp -implicitDefEqProofs (disch := decide +kernel) only [cf, cs, bodyOf, Try.f64, Option.getD_some, go_sem, ↓reduceIte, Nat.reduceSub, Nat.reduceAdd, Nat.reduceMul, Nat.reduceBEq, Nat.reduceLT, Nat.reduceLeDiff, Nat.reduceEqDiff, reduceCtorEq, Int.reduceToNat, Int.reduceLE, Int.reduceLT, Int.reduceBEq, Int.reduceBNe, mCall, zTerm, cells_enc, cel3, hdo, doneEnd_pan, recK_s, zT_enc]
/-- As done tells it. -/
theorem done_spec {g : Nat} {a b : List AV} {r : R Tm} (hs : ∀ u m, r = .ok u m → u.size < room)
    (hdo : (lim C).call g [.href 4 0, .href 0 0, .href 1 0] [.var 0 a, .var 0 b, .var 0 zTerm, .var 0 [dI 0], .var 0 [dI 0]] = outR [.var 0 a, .var 0 b, .var 0 zTerm, .var 0 [dI 0]] r) :
    ∃ h, (lim C).call 64 [.fn g [] [.href 0 0, .href 1 0]] [.var 0 a, .var 0 b] = some (.ret (.tup [dT (outD r).1, dI (outD r).2]), h) := by
  cases r with
  | ok u m =>
    cases hm : mayB u
    · exact ⟨_, by simp only [outD, hm]; exact done_big (hs u m rfl) hm hdo⟩
    · exact ⟨_, by simp only [outD, hm]; exact done_ok (hs u m rfl) hm hdo⟩
  | er e m => exact ⟨_, done_er hdo⟩
/-- Apply, in plain words. -/
def applyR (t : Tm) (s : Sb) : Tm × Int := if mayB t && smayB s then outD (ap 40000 t s 0) else (zT, 1)
def spineR (t : Tm) (l : List Tm) : Tm × Int := if mayB t && maysB l then outD (spnA (ap 40000) t l 0) else (zT, 1)
theorem ap1_spec {t : Tm} {s : Sb} {r : R Tm}
    (hw : (lim C).call 66 [.href 4 0, dT t, dS s] [.var 0 (cel3 t), .var 0 (cel2 s), .var 0 zTerm, .var 0 [dI 0], .var 0 [dI 0]] = outR [.var 0 (cel3 t), .var 0 (cel2 s), .var 0 zTerm, .var 0 [dI 0]] r) :
    (lim C).call 65 [.href 4 0, .href 0 0, .href 1 0] [.var 0 (cel3 t), .var 0 (cel2 s), .var 0 zTerm, .var 0 [dI 0], .var 0 [dI 0]] = outR [.var 0 (cel3 t), .var 0 (cel2 s), .var 0 zTerm, .var 0 [dI 0]] r := by
  have he := (enc_eq t).symm
  have hes := (encS_eq s).symm
  rw [ev_fn 65 Try.f65 _ _ _ rfl Try.func65 rfl Try.ntmps65 rfl]
  simp only [zTerm, cel3, cel2] at hw ⊢
  cases r with
  | ok u m =>
    simp only [outR] at hw ⊢
    simp -implicitDefEqProofs (disch := decide +kernel) only [go_sem, ↓reduceIte, Nat.reduceSub, Nat.reduceAdd, Nat.reduceMul, Nat.reduceBEq, Nat.reduceLT, Nat.reduceLeDiff, Nat.reduceEqDiff, reduceCtorEq, Int.reduceToNat, Int.reduceLE, Int.reduceLT, Int.reduceBEq, Int.reduceBNe, mCall, he, hes, hw, (enc_eq u).symm, cells_enc, cel3]
  | er e m =>
    simp only [outR] at hw ⊢
    simp -implicitDefEqProofs (disch := decide +kernel) only [go_sem, ↓reduceIte, Nat.reduceSub, Nat.reduceAdd, Nat.reduceMul, Nat.reduceBEq, Nat.reduceLT, Nat.reduceLeDiff, Nat.reduceEqDiff, reduceCtorEq, Int.reduceToNat, Int.reduceLE, Int.reduceLT, Int.reduceBEq, Int.reduceBNe, mCall, he, hes, hw]

theorem smay_parts {s : Sb} (h : smayB s = true) : s.L.length ≤ 200 ∧ 0 ≤ s.sh ∧ s.sh ≤ 1048576 ∧ ∀ x ∈ s.L, mayB x = true := by
  unfold smayB at h
  simp only [Bool.and_eq_true, decide_eq_true_eq] at h
  obtain ⟨⟨⟨h1, h2⟩, h3⟩, h4⟩ := h
  exact ⟨by omega, h2, h3, maysB_iff.1 h4⟩
abbrev topV : Int := 1125899906842624
theorem pre_top {t : Tm} {s : Sb} (ht : mayB t = true) (hs : smayB s = true) (hv : vleB topV t = true) (hvs : ∀ x ∈ s.L, vleB topV x = true) :
    Pre 40000 0 topV (s.sh - s.L.length) (topV + 1048576) t s := by
  have hr : room = 1099511627776 := rfl
  obtain ⟨p1, p2, p3⟩ := may_parts ht
  obtain ⟨q1, q2, q3, q4⟩ := smay_parts hs
  exact ⟨by omega, p1, hv, by decide, by decide, by omega, by omega, ⟨q4, fun x hx => vle_mono (by decide) (hvs x hx), q2⟩, by decide, by omega, by omega, by omega, by omega⟩
theorem ap_size {t : Tm} {s : Sb} {u : Tm} {m : Nat} (ht : mayB t = true) (hs : smayB s = true) (hv : vleB topV t = true) (hvs : ∀ x ∈ s.L, vleB topV x = true) (h : ap 40000 t s 0 = .ok u m) : Fits 0 m (topV + 1048576) 0 u := by
  have p := pre_top ht hs hv hvs
  exact (ap_fits _ _ _ _ _ _ _ _ _ p.nodes p.vle p.k0 p.kh p.kd p.sd p.ok h).2
theorem sapply_spec (t : Tm) (s : Sb) (hz : t.size < room) (hzs : ∀ x ∈ s.L, x.size < room) (hl : s.L.length < room) (hv : vleB topV t = true) (hvs : ∀ x ∈ s.L, vleB topV x = true) :
    ∃ h, (lim C).call 35 [dT t, dS s] [] = some (.ret (.tup [dT (applyR t s).1, dI (applyR t s).2]), h) := by
  have hr : room = 1099511627776 := rfl
  have hm1 := tMay_spec t hz
  have hm2 := smayS_spec s hl hzs
  have he := (enc_eq t).symm
  have hes := (encS_eq s).symm
  unfold applyR
  cases h1 : mayB t
  · rw [h1] at hm1
    refine ⟨[.var 0 (cel3 t), .var 0 (cel2 s)], ?_⟩
    rw [ev_fn 35 Try.f35 _ _ _ rfl Try.func35 rfl Try.ntmps35 rfl]
    simp -implicitDefEqProofs (disch := decide +kernel) only [go_sem, ↓reduceIte, Nat.reduceSub, Nat.reduceAdd, Nat.reduceMul, Nat.reduceBEq, Nat.reduceLT, Nat.reduceLeDiff, Nat.reduceEqDiff, reduceCtorEq, Int.reduceToNat, Int.reduceLE, Int.reduceLT, Int.reduceBEq, Int.reduceBNe, mCall, cells_enc, cells_encS, cel3, cel2, he, hes, hm1, zT_enc]
  · rw [h1] at hm1
    cases h2 : smayB s
    · rw [h2] at hm2
      refine ⟨[.var 0 (cel3 t), .var 0 (cel2 s)], ?_⟩
      rw [ev_fn 35 Try.f35 _ _ _ rfl Try.func35 rfl Try.ntmps35 rfl]
      simp -implicitDefEqProofs (disch := decide +kernel) only [go_sem, ↓reduceIte, Nat.reduceSub, Nat.reduceAdd, Nat.reduceMul, Nat.reduceBEq, Nat.reduceLT, Nat.reduceLeDiff, Nat.reduceEqDiff, reduceCtorEq, Int.reduceToNat, Int.reduceLE, Int.reduceLT, Int.reduceBEq, Int.reduceBNe, mCall, cells_enc, cells_encS, cel3, cel2, he, hes, hm1, hm2, zT_enc]
    · rw [h2] at hm2
      have hw := ap_walk 40000 t s 0 [.var 0 (cel3 t), .var 0 (cel2 s), .var 0 zTerm, .var 0 [dI 0]] _ _ _ (pre_top h1 h2 hv hvs)
      obtain ⟨h, hd⟩ := done_spec (g := 65) (a := cel3 t) (b := cel2 s) (r := ap 40000 t s 0) (fun u m hu => by
        have := (ap_size h1 h2 hv hvs hu)
        have := this.size
        have := ‹Fits 0 m (topV + 1048576) 0 u›.lim
        have q : (m - 0) * 4001 ≤ 40000 * 4001 := Nat.mul_le_mul_right _ (by omega)
        omega) (ap1_spec hw)
      simp only [cel3, cel2] at hd
      refine ⟨h, ?_⟩
      rw [ev_fn 35 Try.f35 _ _ _ rfl Try.func35 rfl Try.ntmps35 rfl]
      simp -implicitDefEqProofs (disch := decide +kernel) only [go_sem, ↓reduceIte, Nat.reduceSub, Nat.reduceAdd, Nat.reduceMul, Nat.reduceBEq, Nat.reduceLT, Nat.reduceLeDiff, Nat.reduceEqDiff, reduceCtorEq, Int.reduceToNat, Int.reduceLE, Int.reduceLT, Int.reduceBEq, Int.reduceBNe, mCall, cells_enc, cells_encS, cel3, cel2, he, hes, hm1, hm2, hd]

end Go.Proofs.Ytmemmdfjlhamfaa
