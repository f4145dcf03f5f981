/- slices.Grow of the nil slice, and recover. -/
import Derived.Test.YtmmhpmfgcenngaaKE
import Derived.Test.YtmmhpmfgcenngaaProg
import Derived.WalkKit
import Derived.Lib.Walk
import Derived.Lib.SliceRun
import Derived.Lib.AppendZerosOnto
import Derived.RecoverIn
import Derived.KernelRfl
set_option linter.unusedVariables false
set_option linter.unusedSimpArgs false
namespace Go.Proofs.Ytmmhpmfgcenngaa
open Go.Proofs Go.RowKit Go.Lib
noncomputable def extT : Nat → Option (Orc → List AV → List HO → Option (CR × List HO)) := fun _ => none
theorem extT_cts [N0] (f : Nat) (x : Orc → List AV → List HO → Option (CR × List HO)) (h : extT f = some x) (args : List AV) (heap : List HO) : Cts (fun O => x O args heap) := by cases h
end Go.Proofs.Ytmmhpmfgcenngaa
