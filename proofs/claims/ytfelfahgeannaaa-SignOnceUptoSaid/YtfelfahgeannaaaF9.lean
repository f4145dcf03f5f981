/- The laws of layer 1: TermTells, TermCounts. -/
import Derived.Test.YtfelfahgeannaaaF8
import Derived.Test.YtfelfahgeannaaaT0
set_option linter.unusedSimpArgs false
set_option linter.unusedVariables false
set_option maxRecDepth 100000
namespace Go.Proofs.Ytfelfahgeannaaa
open Go.Proofs
theorem nodeOk_head {t : Tm} (h : nodeOk t = true) : 0 ≤ t.head := by
  unfold nodeOk at h
  split at h
  · simp at h; omega
  · split at h
    · simp at h; omega
    · split at h
      · simp at h; omega
      · simp at h; omega
theorem calm_of {t : Tm} (hw : Wf t) (hs : t.size < room) (h : nodesB t = true) : ∀ q ∈ pre t 0, calm q := by
  intro q hq
  have hr : room = 1099511627776 := rfl
  rw [← pre_nodes t 0] at h
  have h1 := nodeOk_head (List.all_eq_true.1 h q hq)
  have h2 := pre_around t 0 q hq
  have h3 := (hw.pre 0 q hq).head
  unfold in64 at h3
  unfold calm
  omega
theorem may_nodes {t : Tm} (h : mayB t = true) : nodesB t = true := by
  unfold mayB at h
  simp only [Bool.and_eq_true] at h
  exact h.1.1
theorem termTells_holds (t : Tm) (w : Wf t) (hs : t.size < room) (v : Int) (iv : in64 v) (m : Int) (im : in64 m) : ∃ h, (lim C).call 6 [dT t, dI v, dI m] [] = some (.ret (dB true), h) := by
  have hr : room = 1099511627776 := rfl
  refine ⟨[], ?_⟩
  rw [ev_fn 6 Try.f6 _ _ _ rfl Try.func6 rfl Try.ntmps6 rfl]
  cases h1 : lightB t 9000 200
  · simp -implicitDefEqProofs (disch := decide +kernel) only [go_sem, ↓reduceIte, Nat.reduceSub, Nat.reduceAdd, Nat.reduceMul, Nat.reduceBEq, Nat.reduceLT, Nat.reduceLeDiff, Nat.reduceEqDiff, reduceCtorEq, Int.reduceToNat, Int.reduceLE, Int.reduceLT, Int.reduceBEq, Int.reduceBNe, mCall, awake1_spec, light_spec t _ _ hs, h1]
  · skip
    cases h2 : decide (v < -1099511627776)
    rotate_left
    · simp -implicitDefEqProofs (disch := decide +kernel) only [go_sem, ↓reduceIte, Nat.reduceSub, Nat.reduceAdd, Nat.reduceMul, Nat.reduceBEq, Nat.reduceLT, Nat.reduceLeDiff, Nat.reduceEqDiff, reduceCtorEq, Int.reduceToNat, Int.reduceLE, Int.reduceLT, Int.reduceBEq, Int.reduceBNe, mCall, awake1_spec, light_spec t _ _ hs, h1, h2]
    cases h3 : decide (v > 1099511627776)
    rotate_left
    · simp -implicitDefEqProofs (disch := decide +kernel) only [go_sem, ↓reduceIte, Nat.reduceSub, Nat.reduceAdd, Nat.reduceMul, Nat.reduceBEq, Nat.reduceLT, Nat.reduceLeDiff, Nat.reduceEqDiff, reduceCtorEq, Int.reduceToNat, Int.reduceLE, Int.reduceLT, Int.reduceBEq, Int.reduceBNe, mCall, awake1_spec, light_spec t _ _ hs, h1, h2, h3]
    cases h4 : decide (m > 1099511627776)
    rotate_left
    · simp -implicitDefEqProofs (disch := decide +kernel) only [go_sem, ↓reduceIte, Nat.reduceSub, Nat.reduceAdd, Nat.reduceMul, Nat.reduceBEq, Nat.reduceLT, Nat.reduceLeDiff, Nat.reduceEqDiff, reduceCtorEq, Int.reduceToNat, Int.reduceLE, Int.reduceLT, Int.reduceBEq, Int.reduceBNe, mCall, awake1_spec, light_spec t _ _ hs, h1, h2, h3, h4]
    simp at h2 h3
    have e2 : decide (v < -1099511627776) = false := by simpa using h2
    have e3 : decide (v > 1099511627776) = false := by simpa using h3
    have hsc := rscoped_spec t hs v m (by omega) (by omega)
    cases h5 : mayB t
    · simp -implicitDefEqProofs (disch := decide +kernel) only [go_sem, ↓reduceIte, Nat.reduceSub, Nat.reduceAdd, Nat.reduceMul, Nat.reduceBEq, Nat.reduceLT, Nat.reduceLeDiff, Nat.reduceEqDiff, reduceCtorEq, Int.reduceToNat, Int.reduceLE, Int.reduceLT, Int.reduceBEq, Int.reduceBNe, mCall, awake1_spec, light_spec t _ _ hs, h1, e2, e3, h4, may_spec t hs, h5, hsc, rsize_spec t hs, rdepth_spec t hs, tsize_spec t hs, tdepth_spec t hs, tMay_spec t hs]
    · obtain ⟨x, hx⟩ := tscoped_spec t v m hs (calm_of w hs (may_nodes h5))
      simp -implicitDefEqProofs (disch := decide +kernel) only [go_sem, ↓reduceIte, Nat.reduceSub, Nat.reduceAdd, Nat.reduceMul, Nat.reduceBEq, Nat.reduceLT, Nat.reduceLeDiff, Nat.reduceEqDiff, reduceCtorEq, Int.reduceToNat, Int.reduceLE, Int.reduceLT, Int.reduceBEq, Int.reduceBNe, mCall, awake1_spec, light_spec t _ _ hs, h1, e2, e3, h4, may_spec t hs, h5, hsc, rsize_spec t hs, rdepth_spec t hs, tsize_spec t hs, tdepth_spec t hs, tMay_spec t hs, hx]
end Go.Proofs.Ytfelfahgeannaaa
