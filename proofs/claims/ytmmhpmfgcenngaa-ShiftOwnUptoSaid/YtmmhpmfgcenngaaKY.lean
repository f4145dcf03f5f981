/- Functions that are told besides: what is told is what the machine does. -/
import Derived.Test.YtmmhpmfgcenngaaCf
set_option linter.unusedVariables false
set_option linter.unusedSimpArgs false
namespace Go.Proofs.Ytmmhpmfgcenngaa
open Go.Proofs

instance  [N0]: ExtC C := ⟨fun f x h args heap => extT_cts f x h args heap⟩
theorem name_ok : (Try.prog.funcs.all fun fn => !(fn.name == "runtime.NumGoroutine")) = true := by kernel_rfl
theorem name_of (f : Nat) (fn : Func) (h : C.P.funcs[f]? = some fn) : (fn.name == "runtime.NumGoroutine") = false := by
  have := Array.all_eq_true_iff_forall_mem.1 name_ok fn (Array.mem_of_getElem? h)
  simpa using this
theorem extT_sound [N0] (f : Nat) (x : Orc → List AV → List HO → Option (CR × List HO)) (h : C.ext f = some x) (O : Orc) (hs : Sound C O) (args : List AV) (heap : List HO) (cr : CR) (heap' : List HO) (hx : x O args heap = some (cr, heap')) :
    Enters C.P f ∧ ∀ (X : Nat → Nat → Prop) (G : Gh) (w : World) (As : List Value), CE X G w.heap args As heap → CallsIn Fence.wide 0 C.P f As.toArray w (CQ X G w cr heap') := by cases h
theorem fine [N0] : Fine C where
  mix := by kernel_rfl
  name := name_of
  ext := extT_sound
end Go.Proofs.Ytmmhpmfgcenngaa
