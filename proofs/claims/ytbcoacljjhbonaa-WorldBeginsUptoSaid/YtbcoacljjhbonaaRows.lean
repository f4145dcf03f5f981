/-
  NARROWER THAN 'FOR EVERY INPUT', by the rows' own cells (each row's printed sentence says how): WorldParts: loops · WorldBegins: loops · WorldMore: loops · WorldConforms: loops · WorldLimits: loops · CheckMore: loops.
  DERIVED. THE GIVEN ROWS OF THIS SEAT. 6 by the template 'for every input the law returns true; each argument reads behind the call as it read before'; 0 by the template 'total and deterministic' (their statements: YtbcoacljjhbonaaTotals.lean).
  GIVEN WITH THE SEED: the statements are not yours to turn. If you find one false, say at which input.
  Laid BY PROGRAM, IN A SANDBOX (cutbox-rows.mjs): the forced cells as the released guide's own fill.sh prints them over the translation 8a3cc5d4398ed71a… (all of the seat's roots in one cut). By AI agents, Wed Nov 11 2026. No macro, syntax, notation, axiom, sorry.
-/
import Derived.Test.YtbcoacljjhbonaaChecked
import GoSem.Claim
import GoSem.ClaimJoined
import GoSem.ClaimMapViews
import Derived.JoinedTies
import Derived.KernelRfl
namespace Go.Proofs.Ytbcoacljjhbonaa
/- THE CELL 'sum', in the pinned program and in every row, IS THE sha256 OF THE DUMP (.gsa) THAT YtbcoacljjhbonaaProg.lean LOADS. Nothing in Lean hashes anything: it is a label: what it is worth is what the hold of that sum in a sandbox is worth. -/
noncomputable def Try.pinned : Pinned := { name := "ytbcoacljjhbonaa", sum := "8a3cc5d4398ed71a227b8d7eda9661f2afc317021d83fe578411dcb7335aafa9", checked := Try.checked }
namespace Rows
def none {H : Type} : Left H := { results := [], args := [] }

/-- 'amanuensislaw11.WorldParts': WHATEVER THE INPUT: true; the input reads as it did. -/
def worldPartsSpec : ChangeSpec := { name := "worldParts", fn := fun _ => fun
  | [d1, d2, d3] => { results := [.lit (.bool true)], args := [d1, d2, d3] }
  | _ => none }
def worldPartsRow : OpenClaim := { program := "ytbcoacljjhbonaa", sum := "8a3cc5d4398ed71a227b8d7eda9661f2afc317021d83fe578411dcb7335aafa9", func := "amanuensis/amanuensislaw11.WorldParts", spec := "worldParts", unfollowed := true, recurses := true, loops := true, apart := false }
def WorldPartsSaid : Prop := worldPartsRow.holds Try.pinned (OpenSpec.ofChange worldPartsSpec)

/-- ITS FALSE NEIGHBOUR: 'it returns false'. Refute it at one input. -/
def worldPartsWrong : ChangeSpec := { name := "worldParts", fn := fun _ => fun
  | [d1, d2, d3] => { results := [.lit (.bool false)], args := [d1, d2, d3] }
  | _ => none }
def WorldPartsWrongFalsely : Prop := worldPartsRow.holds Try.pinned (OpenSpec.ofChange worldPartsWrong)

/-- 'amanuensislaw11.WorldBegins': WHATEVER THE INPUT: true; the input reads as it did. -/
def worldBeginsSpec : ChangeSpec := { name := "worldBegins", fn := fun _ => fun
  | [d1, d2, d3] => { results := [.lit (.bool true)], args := [d1, d2, d3] }
  | _ => none }
def worldBeginsRow : OpenClaim := { program := "ytbcoacljjhbonaa", sum := "8a3cc5d4398ed71a227b8d7eda9661f2afc317021d83fe578411dcb7335aafa9", func := "amanuensis/amanuensislaw11.WorldBegins", spec := "worldBegins", unfollowed := true, recurses := true, loops := true, apart := false }
def WorldBeginsSaid : Prop := worldBeginsRow.holds Try.pinned (OpenSpec.ofChange worldBeginsSpec)

/-- ITS FALSE NEIGHBOUR: 'it returns false'. Refute it at one input. -/
def worldBeginsWrong : ChangeSpec := { name := "worldBegins", fn := fun _ => fun
  | [d1, d2, d3] => { results := [.lit (.bool false)], args := [d1, d2, d3] }
  | _ => none }
def WorldBeginsWrongFalsely : Prop := worldBeginsRow.holds Try.pinned (OpenSpec.ofChange worldBeginsWrong)

/-- 'amanuensislaw11.WorldMore': WHATEVER THE INPUT: true; the input reads as it did. -/
def worldMoreSpec : ChangeSpec := { name := "worldMore", fn := fun _ => fun
  | [d1, d2, d3] => { results := [.lit (.bool true)], args := [d1, d2, d3] }
  | _ => none }
def worldMoreRow : OpenClaim := { program := "ytbcoacljjhbonaa", sum := "8a3cc5d4398ed71a227b8d7eda9661f2afc317021d83fe578411dcb7335aafa9", func := "amanuensis/amanuensislaw11.WorldMore", spec := "worldMore", unfollowed := true, recurses := true, loops := true, apart := false }
def WorldMoreSaid : Prop := worldMoreRow.holds Try.pinned (OpenSpec.ofChange worldMoreSpec)

/-- ITS FALSE NEIGHBOUR: 'it returns false'. Refute it at one input. -/
def worldMoreWrong : ChangeSpec := { name := "worldMore", fn := fun _ => fun
  | [d1, d2, d3] => { results := [.lit (.bool false)], args := [d1, d2, d3] }
  | _ => none }
def WorldMoreWrongFalsely : Prop := worldMoreRow.holds Try.pinned (OpenSpec.ofChange worldMoreWrong)

/-- 'amanuensislaw11.WorldConforms': WHATEVER THE INPUT: true; the input reads as it did. -/
def worldConformsSpec : ChangeSpec := { name := "worldConforms", fn := fun _ => fun
  | [d1, d2, d3, d4] => { results := [.lit (.bool true)], args := [d1, d2, d3, d4] }
  | _ => none }
def worldConformsRow : OpenClaim := { program := "ytbcoacljjhbonaa", sum := "8a3cc5d4398ed71a227b8d7eda9661f2afc317021d83fe578411dcb7335aafa9", func := "amanuensis/amanuensislaw11.WorldConforms", spec := "worldConforms", unfollowed := true, recurses := true, loops := true, apart := false }
def WorldConformsSaid : Prop := worldConformsRow.holds Try.pinned (OpenSpec.ofChange worldConformsSpec)

/-- ITS FALSE NEIGHBOUR: 'it returns false'. Refute it at one input. -/
def worldConformsWrong : ChangeSpec := { name := "worldConforms", fn := fun _ => fun
  | [d1, d2, d3, d4] => { results := [.lit (.bool false)], args := [d1, d2, d3, d4] }
  | _ => none }
def WorldConformsWrongFalsely : Prop := worldConformsRow.holds Try.pinned (OpenSpec.ofChange worldConformsWrong)

/-- 'amanuensislaw11.WorldLimits': WHATEVER THE INPUT: true; the input reads as it did. -/
def worldLimitsSpec : ChangeSpec := { name := "worldLimits", fn := fun _ => fun
  | [d1, d2, d3] => { results := [.lit (.bool true)], args := [d1, d2, d3] }
  | _ => none }
def worldLimitsRow : OpenClaim := { program := "ytbcoacljjhbonaa", sum := "8a3cc5d4398ed71a227b8d7eda9661f2afc317021d83fe578411dcb7335aafa9", func := "amanuensis/amanuensislaw11.WorldLimits", spec := "worldLimits", unfollowed := true, recurses := true, loops := true, apart := false }
def WorldLimitsSaid : Prop := worldLimitsRow.holds Try.pinned (OpenSpec.ofChange worldLimitsSpec)

/-- ITS FALSE NEIGHBOUR: 'it returns false'. Refute it at one input. -/
def worldLimitsWrong : ChangeSpec := { name := "worldLimits", fn := fun _ => fun
  | [d1, d2, d3] => { results := [.lit (.bool false)], args := [d1, d2, d3] }
  | _ => none }
def WorldLimitsWrongFalsely : Prop := worldLimitsRow.holds Try.pinned (OpenSpec.ofChange worldLimitsWrong)

/-- 'amanuensislaw10.CheckMore': WHATEVER THE INPUT: true; the input reads as it did. -/
def checkMoreSpec : ChangeSpec := { name := "checkMore", fn := fun _ => fun
  | [d1, d2, d3, d4, d5, d6, d7] => { results := [.lit (.bool true)], args := [d1, d2, d3, d4, d5, d6, d7] }
  | _ => none }
def checkMoreRow : OpenClaim := { program := "ytbcoacljjhbonaa", sum := "8a3cc5d4398ed71a227b8d7eda9661f2afc317021d83fe578411dcb7335aafa9", func := "amanuensis/amanuensislaw10.CheckMore", spec := "checkMore", unfollowed := true, recurses := true, loops := true, apart := false }
def CheckMoreSaid : Prop := checkMoreRow.holds Try.pinned (OpenSpec.ofChange checkMoreSpec)

/-- ITS FALSE NEIGHBOUR: 'it returns false'. Refute it at one input. -/
def checkMoreWrong : ChangeSpec := { name := "checkMore", fn := fun _ => fun
  | [d1, d2, d3, d4, d5, d6, d7] => { results := [.lit (.bool false)], args := [d1, d2, d3, d4, d5, d6, d7] }
  | _ => none }
def CheckMoreWrongFalsely : Prop := checkMoreRow.holds Try.pinned (OpenSpec.ofChange checkMoreWrong)

/- THE SECOND FORM. 'bulk': how many values and letters a reading holds, each counted each time it is reached (what is shared counts as often as it is met; a slice's spare places count too). A statement '..UptoSaid' is the law's where the arguments, and the package variables that the reading takes, are together of bulk at most 1048576: NARROWER than '..Said'. Prove '..Said' where nothing that the law and all that it calls make is longer than what came in: it says more and counts as full. Else prove '..UptoSaid'. A law counts once. -/
mutual
def uptoBulk {H : Type} : DataW H → Nat
  | .lit (.string bytes) => bytes.length + 1
  | .lit _ => 1
  | .nil => 1
  | .ptr d => uptoBulk d + 1
  | .slice elems spare => uptoBulkAll elems + uptoBulkAll spare + 1
  | .agg parts => uptoBulkAll parts + 1
  | .iface _ d => uptoBulk d + 1
  | .map entries => uptoBulkEntries entries + 1
  | .held _ => 1
def uptoBulkAll {H : Type} : List (DataW H) → Nat
  | [] => 0
  | d :: r => uptoBulk d + uptoBulkAll r
def uptoBulkEntries {H : Type} : List (Lit × DataW H) → Nat
  | [] => 0
  | x :: r => uptoBulkEntry x + uptoBulkEntries r
def uptoBulkEntry {H : Type} : Lit × DataW H → Nat
  | (.string bytes, d) => bytes.length + uptoBulk d + 1
  | (_, d) => uptoBulk d + 1
 end
def uptoSmall : (H : Type) → List (DataW H) → Bool := fun _ ds => decide (uptoBulkAll ds ≤ 1048576)
def OpenSpec.upto (s : _root_.Go.ChangeSpec) : _root_.Go.OpenSpec := { _root_.Go.OpenSpec.ofChange s with cond := some uptoSmall }

/-- 'amanuensislaw11.WorldParts', WHERE WHAT IT READS IS OF BULK AT MOST 1048576: true; the input reads as it did. -/
def worldPartsUptoRow : OpenClaim := { program := "ytbcoacljjhbonaa", sum := "8a3cc5d4398ed71a227b8d7eda9661f2afc317021d83fe578411dcb7335aafa9", func := "amanuensis/amanuensislaw11.WorldParts", spec := "worldParts", unfollowed := true, recurses := true, loops := true, apart := false, narrowed := true }
def WorldPartsUptoSaid : Prop := worldPartsUptoRow.holds Try.pinned (OpenSpec.upto worldPartsSpec)

/-- 'amanuensislaw11.WorldBegins', WHERE WHAT IT READS IS OF BULK AT MOST 1048576: true; the input reads as it did. -/
def worldBeginsUptoRow : OpenClaim := { program := "ytbcoacljjhbonaa", sum := "8a3cc5d4398ed71a227b8d7eda9661f2afc317021d83fe578411dcb7335aafa9", func := "amanuensis/amanuensislaw11.WorldBegins", spec := "worldBegins", unfollowed := true, recurses := true, loops := true, apart := false, narrowed := true }
def WorldBeginsUptoSaid : Prop := worldBeginsUptoRow.holds Try.pinned (OpenSpec.upto worldBeginsSpec)

/-- 'amanuensislaw11.WorldMore', WHERE WHAT IT READS IS OF BULK AT MOST 1048576: true; the input reads as it did. -/
def worldMoreUptoRow : OpenClaim := { program := "ytbcoacljjhbonaa", sum := "8a3cc5d4398ed71a227b8d7eda9661f2afc317021d83fe578411dcb7335aafa9", func := "amanuensis/amanuensislaw11.WorldMore", spec := "worldMore", unfollowed := true, recurses := true, loops := true, apart := false, narrowed := true }
def WorldMoreUptoSaid : Prop := worldMoreUptoRow.holds Try.pinned (OpenSpec.upto worldMoreSpec)

/-- 'amanuensislaw11.WorldConforms', WHERE WHAT IT READS IS OF BULK AT MOST 1048576: true; the input reads as it did. -/
def worldConformsUptoRow : OpenClaim := { program := "ytbcoacljjhbonaa", sum := "8a3cc5d4398ed71a227b8d7eda9661f2afc317021d83fe578411dcb7335aafa9", func := "amanuensis/amanuensislaw11.WorldConforms", spec := "worldConforms", unfollowed := true, recurses := true, loops := true, apart := false, narrowed := true }
def WorldConformsUptoSaid : Prop := worldConformsUptoRow.holds Try.pinned (OpenSpec.upto worldConformsSpec)

/-- 'amanuensislaw11.WorldLimits', WHERE WHAT IT READS IS OF BULK AT MOST 1048576: true; the input reads as it did. -/
def worldLimitsUptoRow : OpenClaim := { program := "ytbcoacljjhbonaa", sum := "8a3cc5d4398ed71a227b8d7eda9661f2afc317021d83fe578411dcb7335aafa9", func := "amanuensis/amanuensislaw11.WorldLimits", spec := "worldLimits", unfollowed := true, recurses := true, loops := true, apart := false, narrowed := true }
def WorldLimitsUptoSaid : Prop := worldLimitsUptoRow.holds Try.pinned (OpenSpec.upto worldLimitsSpec)

/-- 'amanuensislaw10.CheckMore', WHERE WHAT IT READS IS OF BULK AT MOST 1048576: true; the input reads as it did. -/
def checkMoreUptoRow : OpenClaim := { program := "ytbcoacljjhbonaa", sum := "8a3cc5d4398ed71a227b8d7eda9661f2afc317021d83fe578411dcb7335aafa9", func := "amanuensis/amanuensislaw10.CheckMore", spec := "checkMore", unfollowed := true, recurses := true, loops := true, apart := false, narrowed := true }
def CheckMoreUptoSaid : Prop := checkMoreUptoRow.holds Try.pinned (OpenSpec.upto checkMoreSpec)

end Rows
end Go.Proofs.Ytbcoacljjhbonaa
