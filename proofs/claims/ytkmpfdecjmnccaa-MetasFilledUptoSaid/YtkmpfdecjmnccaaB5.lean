/- The laws of layer 12: MetasSizes. -/
import Derived.Test.YtkmpfdecjmnccaaB4
set_option linter.unusedSimpArgs false
set_option linter.unusedVariables false
set_option maxRecDepth 100000
namespace Go.Proofs.Ytkmpfdecjmnccaa
open Go.Proofs
theorem few12_spec (ms : List Md) (hm : msum ms + 1 ≤ 1048576) : (lim C).call 9 [dMs ms] [] = retB (fewW ⟨[], ms, []⟩) := by
  have h := fewW_spec ⟨[], ms, []⟩ (wsz_of (by simp [dsum]) hm (by simp))
  have h : (lim C).call 8 [.d (.slc []), dMs ms, .d (.slc [])] [] = retB (fewW ⟨[], ms, []⟩) := h
  rw [ev_fn 9 Try.f9 _ _ _ rfl Try.func9 rfl Try.ntmps9 rfl]
  simp -implicitDefEqProofs (disch := decide +kernel) only [go_sem, ↓reduceIte, Nat.reduceSub, Nat.reduceAdd, Nat.reduceMul, Nat.reduceBEq, Nat.reduceLT, Nat.reduceLeDiff, Nat.reduceEqDiff, reduceCtorEq, Int.reduceToNat, Int.reduceLE, Int.reduceLT, Int.reduceBEq, Int.reduceBNe, mCall, h]
end Go.Proofs.Ytkmpfdecjmnccaa
