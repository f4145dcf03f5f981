/- The laws of layer 1: awake, TermSame. -/
import Derived.Test.YtfelfahgeannaaaF7
import Derived.Test.YtfelfahgeannaaaF1
set_option linter.unusedSimpArgs false
set_option linter.unusedVariables false
set_option maxRecDepth 100000
namespace Go.Proofs.Ytfelfahgeannaaa
open Go.Proofs
def aw : Tm := .mk 3 0 [.mk 4 0 []]
theorem aw_enc : Dv.agg [.int .i64 3, .int .i64 0, .slc [enc (.mk 4 0 [])]] = enc aw := by
  simp [aw, enc_mk, encs]
theorem aw_fold : Dv.agg [.int .i64 aw.kind, .int .i64 aw.head, .slc [enc (.mk 4 0 [])]] = enc aw := aw_enc
theorem aw_arg : Dv.agg [.int .i64 4, .int .i64 0, .slc []] = enc (.mk 4 0 []) := by
  simp [enc_mk, encs]
theorem aw_size : aw.size = 2 := by simp [aw, Tm.size]
theorem aw_depth : aw.depth = 2 := by simp [aw, Tm.depth]
theorem aw_may : mayB aw = true := by
  simp [mayB, aw_size, aw_depth]
  simp [aw, nodesB, allB, nodeOk, Tm.kind, Tm.head, Tm.args]
theorem aw_scoped : scopedB aw 0 0 = true := by
  simp [aw, scopedB, allB, bnd, Tm.kind, Tm.args]
theorem aw_scoped' : scopedB (.mk 4 0 []) 0 0 = false := by
  simp [scopedB]
theorem awake1_spec : (lim C).call 27 [] [] = retB true := by
  have hr : room = 1099511627776 := rfl
  have hs : aw.size < room := by rw [aw_size]; omega
  have hs' : (Tm.mk 4 0 []).size < room := by simp [Tm.size, room]
  have h1 := tsize_spec aw hs
  have h2 := tdepth_spec aw hs
  have h3 := tMay_spec aw hs
  rw [aw_size] at h1
  rw [aw_depth] at h2
  rw [aw_may] at h3
  obtain ⟨x4, h4⟩ := tscoped_spec aw 0 0 hs (fun q hq => by
    simp [aw, pre, bnd, Tm.kind, Tm.args, List.range, List.range.loop] at hq
    rcases hq with rfl | rfl <;> simp [calm, Tm.head])
  obtain ⟨x5, h5⟩ := tscoped_spec (.mk 4 0 []) 0 0 hs' (fun q hq => by
    simp [pre] at hq
    subst hq
    simp [calm, Tm.head])
  rw [aw_scoped] at h4
  rw [aw_scoped'] at h5
  rw [show ((2 : Nat) : Int) = 2 from rfl] at h1 h2
  have ha : encs aw.args = [enc (.mk 4 0 [])] := rfl
  rw [ev_fn 27 Try.f27 _ _ _ rfl Try.func27 rfl Try.ntmps27 rfl]
  simp -implicitDefEqProofs (disch := decide +kernel) only [go_sem, ↓reduceIte, Nat.reduceSub, Nat.reduceAdd, Nat.reduceMul, Nat.reduceBEq, Nat.reduceLT, Nat.reduceLeDiff, Nat.reduceEqDiff, reduceCtorEq, Int.reduceToNat, Int.reduceLE, Int.reduceLT, Int.reduceBEq, Int.reduceBNe, mCall, aw_enc, aw_fold, aw_arg, ha, h1, h2, h3, h4, h5]
theorem low_light {t : Tm} {s d : Int} (h : lightB t s d = true) : lowB t = true := by
  unfold lightB at h
  simp only [Bool.and_eq_true] at h
  exact h.1.1
theorem termSame_holds (a b : Tm) (ha : a.size < room) (hb : b.size < room) : (lim C).call 11 [dT a, dT b] [] = retB true := by
  rw [ev_fn 11 Try.f11 _ _ _ rfl Try.func11 rfl Try.ntmps11 rfl]
  cases h1 : lightB a 9000 200
  · cases h2 : lightB b 9000 200
    · simp -implicitDefEqProofs (disch := decide +kernel) only [go_sem, ↓reduceIte, Nat.reduceSub, Nat.reduceAdd, Nat.reduceMul, Nat.reduceBEq, Nat.reduceLT, Nat.reduceLeDiff, Nat.reduceEqDiff, reduceCtorEq, Int.reduceToNat, Int.reduceLE, Int.reduceLT, Int.reduceBEq, Int.reduceBNe, mCall, awake1_spec, light_spec a _ _ ha, light_spec b _ _ hb, h1, h2]
    · simp -implicitDefEqProofs (disch := decide +kernel) only [go_sem, ↓reduceIte, Nat.reduceSub, Nat.reduceAdd, Nat.reduceMul, Nat.reduceBEq, Nat.reduceLT, Nat.reduceLeDiff, Nat.reduceEqDiff, reduceCtorEq, Int.reduceToNat, Int.reduceLE, Int.reduceLT, Int.reduceBEq, Int.reduceBNe, mCall, awake1_spec, light_spec a _ _ ha, light_spec b _ _ hb, h1, h2]
  · cases h2 : lightB b 9000 200
    · simp -implicitDefEqProofs (disch := decide +kernel) only [go_sem, ↓reduceIte, Nat.reduceSub, Nat.reduceAdd, Nat.reduceMul, Nat.reduceBEq, Nat.reduceLT, Nat.reduceLeDiff, Nat.reduceEqDiff, reduceCtorEq, Int.reduceToNat, Int.reduceLE, Int.reduceLT, Int.reduceBEq, Int.reduceBNe, mCall, awake1_spec, light_spec a _ _ ha, light_spec b _ _ hb, h1, h2]
    · have e1 : sameB b a = sameB a b := sameB_comm b a
      simp -implicitDefEqProofs (disch := decide +kernel) only [go_sem, ↓reduceIte, Nat.reduceSub, Nat.reduceAdd, Nat.reduceMul, Nat.reduceBEq, Nat.reduceLT, Nat.reduceLeDiff, Nat.reduceEqDiff, reduceCtorEq, Int.reduceToNat, Int.reduceLE, Int.reduceLT, Int.reduceBEq, Int.reduceBNe, mCall, awake1_spec, light_spec a _ _ ha, light_spec b _ _ hb, h1, h2, rsame_spec a ha, own_spec a ha, tsame_spec a ha, tsame_spec b hb, sameB_refl, e1, tbool_4]
end Go.Proofs.Ytfelfahgeannaaa
