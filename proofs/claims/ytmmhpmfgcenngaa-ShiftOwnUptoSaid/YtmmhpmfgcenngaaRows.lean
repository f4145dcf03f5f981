/-
  NARROWER THAN 'FOR EVERY INPUT', by the rows' own cells (each row's printed sentence says how): TermOwn: loops · ShiftOwn: loops.
  DERIVED. THE GIVEN ROWS OF THIS SEAT. 2 by the template 'for every input the law returns true; each argument reads behind the call as it read before'; 0 by the template 'total and deterministic' (their statements: YtmmhpmfgcenngaaTotals.lean).
  GIVEN WITH THE SEED: the statements are not yours to turn. If you find one false, say at which input.
  Laid BY PROGRAM, IN A SANDBOX (cutbox-rows.mjs): the forced cells as the released guide's own fill.sh prints them over the translation 5383cc4574cdafdc… (all of the seat's roots in one cut). By AI agents, Wed Nov 11 2026. No macro, syntax, notation, axiom, sorry.
-/
import Derived.Test.YtmmhpmfgcenngaaChecked
import GoSem.Claim
import GoSem.ClaimJoined
import GoSem.ClaimMapViews
import Derived.JoinedTies
import Derived.KernelRfl
namespace Go.Proofs.Ytmmhpmfgcenngaa
/- THE CELL 'sum', in the pinned program and in every row, IS THE sha256 OF THE DUMP (.gsa) THAT YtmmhpmfgcenngaaProg.lean LOADS. Nothing in Lean hashes anything: it is a label: what it is worth is what the hold of that sum in a sandbox is worth. -/
noncomputable def Try.pinned : Pinned := { name := "ytmmhpmfgcenngaa", sum := "5383cc4574cdafdc7b807c43883068f4d33de6cce73b7b0960ca4786c17f0797", checked := Try.checked }
namespace Rows
def none {H : Type} : Left H := { results := [], args := [] }

/-- 'amanuensislaw01.TermOwn': WHATEVER THE INPUT: true; the input reads as it did. -/
def termOwnSpec : ChangeSpec := { name := "termOwn", fn := fun _ => fun
  | [d] => { results := [.lit (.bool true)], args := [d] }
  | _ => none }
def termOwnRow : OpenClaim := { program := "ytmmhpmfgcenngaa", sum := "5383cc4574cdafdc7b807c43883068f4d33de6cce73b7b0960ca4786c17f0797", func := "amanuensis/amanuensislaw01.TermOwn", spec := "termOwn", unfollowed := true, recurses := true, loops := true, apart := false }
def TermOwnSaid : Prop := termOwnRow.holds Try.pinned (OpenSpec.ofChange termOwnSpec)

/-- ITS FALSE NEIGHBOUR: 'it returns false'. Refute it at one input. -/
def termOwnWrong : ChangeSpec := { name := "termOwn", fn := fun _ => fun
  | [d] => { results := [.lit (.bool false)], args := [d] }
  | _ => none }
def TermOwnWrongFalsely : Prop := termOwnRow.holds Try.pinned (OpenSpec.ofChange termOwnWrong)

/-- 'amanuensislaw02.ShiftOwn': WHATEVER THE INPUT: true; the input reads as it did. -/
def shiftOwnSpec : ChangeSpec := { name := "shiftOwn", fn := fun _ => fun
  | [d1, d2] => { results := [.lit (.bool true)], args := [d1, d2] }
  | _ => none }
def shiftOwnRow : OpenClaim := { program := "ytmmhpmfgcenngaa", sum := "5383cc4574cdafdc7b807c43883068f4d33de6cce73b7b0960ca4786c17f0797", func := "amanuensis/amanuensislaw02.ShiftOwn", spec := "shiftOwn", unfollowed := true, recurses := true, loops := true, apart := false }
def ShiftOwnSaid : Prop := shiftOwnRow.holds Try.pinned (OpenSpec.ofChange shiftOwnSpec)

/-- ITS FALSE NEIGHBOUR: 'it returns false'. Refute it at one input. -/
def shiftOwnWrong : ChangeSpec := { name := "shiftOwn", fn := fun _ => fun
  | [d1, d2] => { results := [.lit (.bool false)], args := [d1, d2] }
  | _ => none }
def ShiftOwnWrongFalsely : Prop := shiftOwnRow.holds Try.pinned (OpenSpec.ofChange shiftOwnWrong)

/- THE SECOND FORM. 'bulk': how many values and letters a reading holds, each counted each time it is reached (what is shared counts as often as it is met; a slice's spare places count too). A statement '..UptoSaid' is the law's where the arguments, and the package variables that the reading takes, are together of bulk at most 1048576: NARROWER than '..Said'. Prove '..Said' where nothing that the law and all that it calls make is longer than what came in: it says more and counts as full. Else prove '..UptoSaid'. A law counts once. -/
mutual
def uptoBulk {H : Type} : DataW H → Nat
  | .lit (.string bytes) => bytes.length + 1
  | .lit _ => 1
  | .nil => 1
  | .ptr d => uptoBulk d + 1
  | .slice elems spare => uptoBulkAll elems + uptoBulkAll spare + 1
  | .agg parts => uptoBulkAll parts + 1
  | .iface _ d => uptoBulk d + 1
  | .map entries => uptoBulkEntries entries + 1
  | .held _ => 1
def uptoBulkAll {H : Type} : List (DataW H) → Nat
  | [] => 0
  | d :: r => uptoBulk d + uptoBulkAll r
def uptoBulkEntries {H : Type} : List (Lit × DataW H) → Nat
  | [] => 0
  | x :: r => uptoBulkEntry x + uptoBulkEntries r
def uptoBulkEntry {H : Type} : Lit × DataW H → Nat
  | (.string bytes, d) => bytes.length + uptoBulk d + 1
  | (_, d) => uptoBulk d + 1
 end
def uptoSmall : (H : Type) → List (DataW H) → Bool := fun _ ds => decide (uptoBulkAll ds ≤ 1048576)
def OpenSpec.upto (s : _root_.Go.ChangeSpec) : _root_.Go.OpenSpec := { _root_.Go.OpenSpec.ofChange s with cond := some uptoSmall }

/-- 'amanuensislaw01.TermOwn', WHERE WHAT IT READS IS OF BULK AT MOST 1048576: true; the input reads as it did. -/
def termOwnUptoRow : OpenClaim := { program := "ytmmhpmfgcenngaa", sum := "5383cc4574cdafdc7b807c43883068f4d33de6cce73b7b0960ca4786c17f0797", func := "amanuensis/amanuensislaw01.TermOwn", spec := "termOwn", unfollowed := true, recurses := true, loops := true, apart := false, narrowed := true }
def TermOwnUptoSaid : Prop := termOwnUptoRow.holds Try.pinned (OpenSpec.upto termOwnSpec)

/-- 'amanuensislaw02.ShiftOwn', WHERE WHAT IT READS IS OF BULK AT MOST 1048576: true; the input reads as it did. -/
def shiftOwnUptoRow : OpenClaim := { program := "ytmmhpmfgcenngaa", sum := "5383cc4574cdafdc7b807c43883068f4d33de6cce73b7b0960ca4786c17f0797", func := "amanuensis/amanuensislaw02.ShiftOwn", spec := "shiftOwn", unfollowed := true, recurses := true, loops := true, apart := false, narrowed := true }
def ShiftOwnUptoSaid : Prop := shiftOwnUptoRow.holds Try.pinned (OpenSpec.upto shiftOwnSpec)

end Rows
end Go.Proofs.Ytmmhpmfgcenngaa
