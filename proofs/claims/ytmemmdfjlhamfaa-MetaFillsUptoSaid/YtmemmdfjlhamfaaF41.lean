/- The references of layers 3 and 4: Apply, Fill, Ctx, All. -/
import Derived.Test.YtmemmdfjlhamfaaF40
import Derived.Test.YtmemmdfjlhamfaaF36
set_option linter.unusedSimpArgs false
set_option linter.unusedVariables false
set_option maxRecDepth 100000
namespace Go.Proofs.Ytmemmdfjlhamfaa
open Go.Proofs
theorem dec_le (a b : Int) : decide (a ≤ b) = !decide (a > b) := by by_cases h : a ≤ b <;> simp [h]; omega
theorem dec_ge (a b : Int) : decide (a ≥ b) = !decide (a < b) := by by_cases h : a ≥ b <;> simp [h]; omega
theorem smayB_code (s : Sb) : smayB s = (!decide ((s.L.length : Int) > 200) && !decide (s.sh < 0) && !decide (s.sh > 1048576) && maysB s.L) := by
  unfold smayB
  rw [dec_le, dec_ge, dec_le]
def rsm_S (s : Sb) (i : Nat) : St := mk 34 [(1, .lref 1 0), (3, dI i)] [(1, cel2 s)] [] []
theorem rsMay_spec (s : Sb) (hl : s.L.length < room) (hz : ∀ x ∈ s.L, x.size < room) : (lim C).call 115 [dS s] [] = retB (smayB s) := by
  have hr : room = 1099511627776 := rfl
  have hloop : (lim C).code 115 (.loop (cf (cf (cs (cf (cs (cs (bodyOf Try.f115)))))))) (rsm_S s 0) = some (if allB s.L.length (fun k => mayB (s.L.getD k default)) then (.exit 0, mk 34 [(1, .lref 1 0), (3, dI s.L.length), (23, dB false)] [(1, cel2 s)] [] []) else (.ret, mk 34 [(2, dB false)] [] [] [])) := by
    refine loop_all (rsm_S s) s.L.length _ (fun k hk hp => ?_) (fun k hk hp => ?_) ?_ (by simp) (by simp)
    · have hc := may_spec (s.L.getD k default) (hz _ (getD_mem hk))
      rw [hp] at hc
      simp -implicitDefEqProofs (disch := decide +kernel) only [cf, cs, bodyOf, Try.f115, Option.getD_some, go_sem, ↓reduceIte, Nat.reduceSub, Nat.reduceAdd, Nat.reduceMul, Nat.reduceBEq, Nat.reduceLT, Nat.reduceLeDiff, Nat.reduceEqDiff, reduceCtorEq, Int.reduceToNat, Int.reduceLE, Int.reduceLT, Int.reduceBEq, Int.reduceBNe, mCall, rsm_S, cel2, lt_true hk, getD_get hk, hc, wrap_succ (n := k) (by omega)]
    · have hc := may_spec (s.L.getD k default) (hz _ (getD_mem hk))
      rw [hp] at hc
      simp -implicitDefEqProofs (disch := decide +kernel) only [cf, cs, bodyOf, Try.f115, Option.getD_some, go_sem, ↓reduceIte, Nat.reduceSub, Nat.reduceAdd, Nat.reduceMul, Nat.reduceBEq, Nat.reduceLT, Nat.reduceLeDiff, Nat.reduceEqDiff, reduceCtorEq, Int.reduceToNat, Int.reduceLE, Int.reduceLT, Int.reduceBEq, Int.reduceBNe, mCall, rsm_S, cel2, lt_true hk, getD_get hk, hc]
    · simp -implicitDefEqProofs (disch := decide +kernel) only [cf, cs, bodyOf, Try.f115, Option.getD_some, go_sem, ↓reduceIte, Nat.reduceSub, Nat.reduceAdd, Nat.reduceMul, Nat.reduceBEq, Nat.reduceLT, Nat.reduceLeDiff, Nat.reduceEqDiff, reduceCtorEq, Int.reduceToNat, Int.reduceLE, Int.reduceLT, Int.reduceBEq, Int.reduceBNe, mCall, rsm_S, cel2, lt_false (Nat.le_refl s.L.length)]
  rw [smayB_code]
  have hm : maysB s.L = allB s.L.length (fun k => mayB (s.L.getD k default)) := rfl
  rw [hm]
  rw [ev_fn 115 Try.f115 _ _ _ rfl Try.func115 rfl Try.ntmps115 rfl]
  cases h1 : decide ((s.L.length : Int) > 200)
  rotate_left
  · simp -implicitDefEqProofs (disch := decide +kernel) only [go_sem, ↓reduceIte, Nat.reduceSub, Nat.reduceAdd, Nat.reduceMul, Nat.reduceBEq, Nat.reduceLT, Nat.reduceLeDiff, Nat.reduceEqDiff, reduceCtorEq, Int.reduceToNat, Int.reduceLE, Int.reduceLT, Int.reduceBEq, Int.reduceBNe, mCall, cells_encS, cel2, h1]
  cases h2 : decide (s.sh < 0)
  rotate_left
  · simp -implicitDefEqProofs (disch := decide +kernel) only [go_sem, ↓reduceIte, Nat.reduceSub, Nat.reduceAdd, Nat.reduceMul, Nat.reduceBEq, Nat.reduceLT, Nat.reduceLeDiff, Nat.reduceEqDiff, reduceCtorEq, Int.reduceToNat, Int.reduceLE, Int.reduceLT, Int.reduceBEq, Int.reduceBNe, mCall, cells_encS, cel2, h1, h2]
  cases h3 : decide (s.sh > 1048576)
  rotate_left
  · simp -implicitDefEqProofs (disch := decide +kernel) only [go_sem, ↓reduceIte, Nat.reduceSub, Nat.reduceAdd, Nat.reduceMul, Nat.reduceBEq, Nat.reduceLT, Nat.reduceLeDiff, Nat.reduceEqDiff, reduceCtorEq, Int.reduceToNat, Int.reduceLE, Int.reduceLT, Int.reduceBEq, Int.reduceBNe, mCall, cells_encS, cel2, h1, h2, h3]
  cases h4 : allB s.L.length (fun k => mayB (s.L.getD k default))
  · rw [h4, if_neg (by simp)] at hloop
    simp -implicitDefEqProofs (disch := decide +kernel) only [go_sem, ↓reduceIte, Nat.reduceSub, Nat.reduceAdd, Nat.reduceMul, Nat.reduceBEq, Nat.reduceLT, Nat.reduceLeDiff, Nat.reduceEqDiff, reduceCtorEq, Int.reduceToNat, Int.reduceLE, Int.reduceLT, Int.reduceBEq, Int.reduceBNe, mCall, cells_encS, cel2, h1, h2, h3]
    rw [loop_at hloop ?hb ?hs]
    case hb => rfl
    case hs => rfl
    simp -implicitDefEqProofs (disch := decide +kernel) only [go_sem, ↓reduceIte, Nat.reduceSub, Nat.reduceAdd, Nat.reduceMul, Nat.reduceBEq, Nat.reduceLT, Nat.reduceLeDiff, Nat.reduceEqDiff, reduceCtorEq, Int.reduceToNat, Int.reduceLE, Int.reduceLT, Int.reduceBEq, Int.reduceBNe, mCall, h1]
  · rw [h4, if_pos rfl] at hloop
    simp -implicitDefEqProofs (disch := decide +kernel) only [go_sem, ↓reduceIte, Nat.reduceSub, Nat.reduceAdd, Nat.reduceMul, Nat.reduceBEq, Nat.reduceLT, Nat.reduceLeDiff, Nat.reduceEqDiff, reduceCtorEq, Int.reduceToNat, Int.reduceLE, Int.reduceLT, Int.reduceBEq, Int.reduceBNe, mCall, cells_encS, cel2, h1, h2, h3]
    rw [loop_at hloop ?hb ?hs]
    case hb => rfl
    case hs => rfl
    simp -implicitDefEqProofs (disch := decide +kernel) only [go_sem, ↓reduceIte, Nat.reduceSub, Nat.reduceAdd, Nat.reduceMul, Nat.reduceBEq, Nat.reduceLT, Nat.reduceLeDiff, Nat.reduceEqDiff, reduceCtorEq, Int.reduceToNat, Int.reduceLE, Int.reduceLT, Int.reduceBEq, Int.reduceBNe, mCall, h1]
theorem rapply_spec (t : Tm) (s : Sb) (hz : t.size < room) (hzs : ∀ x ∈ s.L, x.size < room) (hl : s.L.length < room) (hv : vleB topV t = true) (hvs : ∀ x ∈ s.L, vleB topV x = true) :
    ∃ h, (lim C).call 86 [dT t, dS s] [] = some (.ret (.tup [dT (applyR t s).1, dI (applyR t s).2]), h) := by
  have hr : room = 1099511627776 := rfl
  have hm1 := may_spec t hz
  have hm2 := rsMay_spec s hl hzs
  have he := (enc_eq t).symm
  have hes := (encS_eq s).symm
  unfold applyR
  cases h1 : mayB t
  · rw [h1] at hm1
    refine ⟨[], ?_⟩
    rw [ev_fn 86 Try.f86 _ _ _ rfl Try.func86 rfl Try.ntmps86 rfl]
    simp -implicitDefEqProofs (disch := decide +kernel) only [go_sem, ↓reduceIte, Nat.reduceSub, Nat.reduceAdd, Nat.reduceMul, Nat.reduceBEq, Nat.reduceLT, Nat.reduceLeDiff, Nat.reduceEqDiff, reduceCtorEq, Int.reduceToNat, Int.reduceLE, Int.reduceLT, Int.reduceBEq, Int.reduceBNe, mCall, cells_enc, cells_encS, cel3, cel2, he, hes, hm1, hm2, zT_enc]
  · rw [h1] at hm1
    cases h2 : smayB s
    · rw [h2] at hm2
      refine ⟨[], ?_⟩
      rw [ev_fn 86 Try.f86 _ _ _ rfl Try.func86 rfl Try.ntmps86 rfl]
      simp -implicitDefEqProofs (disch := decide +kernel) only [go_sem, ↓reduceIte, Nat.reduceSub, Nat.reduceAdd, Nat.reduceMul, Nat.reduceBEq, Nat.reduceLT, Nat.reduceLeDiff, Nat.reduceEqDiff, reduceCtorEq, Int.reduceToNat, Int.reduceLE, Int.reduceLT, Int.reduceBEq, Int.reduceBNe, mCall, cells_enc, cells_encS, cel3, cel2, he, hes, hm1, hm2, zT_enc]
    · rw [h2] at hm2
      have hw := rap_walk 40000 t s 0 [] _ _ _ (pre_top h1 h2 hv hvs)
      have hsz : ∀ u m, ap 40000 t s 0 = .ok u m → u.size < room := fun u m hu => by
        have := (ap_size h1 h2 hv hvs hu)
        have := this.size
        have := ‹Fits 0 m (topV + 1048576) 0 u›.lim
        have q : (m - 0) * 4001 ≤ 40000 * 4001 := Nat.mul_le_mul_right _ (by omega)
        omega
      have her : ∀ e m, ap 40000 t s 0 = .er e m → e = 3 ∨ e = 4 := fun e m h => ap_err 40000 t s 0 e m h
      obtain ⟨x, hp, hx⟩ : ∃ x : Tm, ∃ hp, outW [] (ap 40000 t s 0) = some (.ret (dT x), hp) := by
        cases ap 40000 t s 0 with
        | ok u m => exact ⟨u, _, rfl⟩
        | er e m => exact ⟨zT, _, rfl⟩
      obtain ⟨h', hd⟩ := rdone_spec hsz her hx
      have hw' : (lim C).call 116 [.href 0 0, dT t, dS s] [.var 0 [dI 0, dI 0]] = some (.ret (dT x), hp) := by rw [← hx]; exact hw
      refine ⟨h', ?_⟩
      rw [ev_fn 86 Try.f86 _ _ _ rfl Try.func86 rfl Try.ntmps86 rfl]
      generalize outD (ap 40000 t s 0) = rr at hd ⊢
      simp -implicitDefEqProofs (disch := decide +kernel) only [go_sem, ↓reduceIte, Nat.reduceSub, Nat.reduceAdd, Nat.reduceMul, Nat.reduceBEq, Nat.reduceLT, Nat.reduceLeDiff, Nat.reduceEqDiff, reduceCtorEq, Int.reduceToNat, Int.reduceLE, Int.reduceLT, Int.reduceBEq, Int.reduceBNe, mCall, cells_enc, cells_encS, cel3, cel2, zc3, he, hes, hm1, hm2, hw', hd, (enc_eq x).symm, (enc_eq rr.1).symm]
end Go.Proofs.Ytmemmdfjlhamfaa
