/-
  NARROWER THAN 'FOR EVERY INPUT', by the rows' own cells (each row's printed sentence says how): ShiftTells: loops · ShiftOwn: loops · ShiftBack: loops · ShiftParts: loops · ShiftScopes: loops · ShiftFar: loops · SubstScopes: loops · SubstSpines: loops · SubstWeakens: loops · SubstTwice: loops · SubstUnder: loops · SubstUp: loops · SubstBeta: loops.
  DERIVED. THE GIVEN ROWS OF THIS SEAT. 13 by the template 'for every input the law returns true; each argument reads behind the call as it read before'; 0 by the template 'total and deterministic' (their statements: YtojahppjdimdbaaTotals.lean).
  GIVEN WITH THE SEED: the statements are not yours to turn. If you find one false, say at which input.
  Laid BY PROGRAM, IN A SANDBOX (cutbox-rows.mjs): the forced cells as the released guide's own fill.sh prints them over the translation 01d9f010962bcd9d… (all of the seat's roots in one cut). By AI agents, Wed Nov 11 2026. No macro, syntax, notation, axiom, sorry.
-/
import Derived.Test.YtojahppjdimdbaaChecked
import GoSem.Claim
import GoSem.ClaimJoined
import GoSem.ClaimMapViews
import Derived.JoinedTies
import Derived.KernelRfl
namespace Go.Proofs.Ytojahppjdimdbaa
/- THE CELL 'sum', in the pinned program and in every row, IS THE sha256 OF THE DUMP (.gsa) THAT YtojahppjdimdbaaProg.lean LOADS. Nothing in Lean hashes anything: it is a label: what it is worth is what the hold of that sum in a sandbox is worth. -/
noncomputable def Try.pinned : Pinned := { name := "ytojahppjdimdbaa", sum := "01d9f010962bcd9db16bff1d0b595de09275181dd452ebc1a22a725b5971868a", checked := Try.checked }
namespace Rows
def none {H : Type} : Left H := { results := [], args := [] }

/-- 'amanuensislaw02.ShiftTells': WHATEVER THE INPUT: true; the input reads as it did. -/
def shiftTellsSpec : ChangeSpec := { name := "shiftTells", fn := fun _ => fun
  | [d1, d2, d3] => { results := [.lit (.bool true)], args := [d1, d2, d3] }
  | _ => none }
def shiftTellsRow : OpenClaim := { program := "ytojahppjdimdbaa", sum := "01d9f010962bcd9db16bff1d0b595de09275181dd452ebc1a22a725b5971868a", func := "amanuensis/amanuensislaw02.ShiftTells", spec := "shiftTells", unfollowed := true, recurses := true, loops := true, apart := false }
def ShiftTellsSaid : Prop := shiftTellsRow.holds Try.pinned (OpenSpec.ofChange shiftTellsSpec)

/-- ITS FALSE NEIGHBOUR: 'it returns false'. Refute it at one input. -/
def shiftTellsWrong : ChangeSpec := { name := "shiftTells", fn := fun _ => fun
  | [d1, d2, d3] => { results := [.lit (.bool false)], args := [d1, d2, d3] }
  | _ => none }
def ShiftTellsWrongFalsely : Prop := shiftTellsRow.holds Try.pinned (OpenSpec.ofChange shiftTellsWrong)

/-- 'amanuensislaw02.ShiftOwn': WHATEVER THE INPUT: true; the input reads as it did. -/
def shiftOwnSpec : ChangeSpec := { name := "shiftOwn", fn := fun _ => fun
  | [d1, d2] => { results := [.lit (.bool true)], args := [d1, d2] }
  | _ => none }
def shiftOwnRow : OpenClaim := { program := "ytojahppjdimdbaa", sum := "01d9f010962bcd9db16bff1d0b595de09275181dd452ebc1a22a725b5971868a", func := "amanuensis/amanuensislaw02.ShiftOwn", spec := "shiftOwn", unfollowed := true, recurses := true, loops := true, apart := false }
def ShiftOwnSaid : Prop := shiftOwnRow.holds Try.pinned (OpenSpec.ofChange shiftOwnSpec)

/-- ITS FALSE NEIGHBOUR: 'it returns false'. Refute it at one input. -/
def shiftOwnWrong : ChangeSpec := { name := "shiftOwn", fn := fun _ => fun
  | [d1, d2] => { results := [.lit (.bool false)], args := [d1, d2] }
  | _ => none }
def ShiftOwnWrongFalsely : Prop := shiftOwnRow.holds Try.pinned (OpenSpec.ofChange shiftOwnWrong)

/-- 'amanuensislaw02.ShiftBack': WHATEVER THE INPUT: true; the input reads as it did. -/
def shiftBackSpec : ChangeSpec := { name := "shiftBack", fn := fun _ => fun
  | [d1, d2, d3, d4] => { results := [.lit (.bool true)], args := [d1, d2, d3, d4] }
  | _ => none }
def shiftBackRow : OpenClaim := { program := "ytojahppjdimdbaa", sum := "01d9f010962bcd9db16bff1d0b595de09275181dd452ebc1a22a725b5971868a", func := "amanuensis/amanuensislaw02.ShiftBack", spec := "shiftBack", unfollowed := true, recurses := true, loops := true, apart := false }
def ShiftBackSaid : Prop := shiftBackRow.holds Try.pinned (OpenSpec.ofChange shiftBackSpec)

/-- ITS FALSE NEIGHBOUR: 'it returns false'. Refute it at one input. -/
def shiftBackWrong : ChangeSpec := { name := "shiftBack", fn := fun _ => fun
  | [d1, d2, d3, d4] => { results := [.lit (.bool false)], args := [d1, d2, d3, d4] }
  | _ => none }
def ShiftBackWrongFalsely : Prop := shiftBackRow.holds Try.pinned (OpenSpec.ofChange shiftBackWrong)

/-- 'amanuensislaw02.ShiftParts': WHATEVER THE INPUT: true; the input reads as it did. -/
def shiftPartsSpec : ChangeSpec := { name := "shiftParts", fn := fun _ => fun
  | [d1, d2, d3] => { results := [.lit (.bool true)], args := [d1, d2, d3] }
  | _ => none }
def shiftPartsRow : OpenClaim := { program := "ytojahppjdimdbaa", sum := "01d9f010962bcd9db16bff1d0b595de09275181dd452ebc1a22a725b5971868a", func := "amanuensis/amanuensislaw02.ShiftParts", spec := "shiftParts", unfollowed := true, recurses := true, loops := true, apart := false }
def ShiftPartsSaid : Prop := shiftPartsRow.holds Try.pinned (OpenSpec.ofChange shiftPartsSpec)

/-- ITS FALSE NEIGHBOUR: 'it returns false'. Refute it at one input. -/
def shiftPartsWrong : ChangeSpec := { name := "shiftParts", fn := fun _ => fun
  | [d1, d2, d3] => { results := [.lit (.bool false)], args := [d1, d2, d3] }
  | _ => none }
def ShiftPartsWrongFalsely : Prop := shiftPartsRow.holds Try.pinned (OpenSpec.ofChange shiftPartsWrong)

/-- 'amanuensislaw02.ShiftScopes': WHATEVER THE INPUT: true; the input reads as it did. -/
def shiftScopesSpec : ChangeSpec := { name := "shiftScopes", fn := fun _ => fun
  | [d1, d2, d3, d4] => { results := [.lit (.bool true)], args := [d1, d2, d3, d4] }
  | _ => none }
def shiftScopesRow : OpenClaim := { program := "ytojahppjdimdbaa", sum := "01d9f010962bcd9db16bff1d0b595de09275181dd452ebc1a22a725b5971868a", func := "amanuensis/amanuensislaw02.ShiftScopes", spec := "shiftScopes", unfollowed := true, recurses := true, loops := true, apart := false }
def ShiftScopesSaid : Prop := shiftScopesRow.holds Try.pinned (OpenSpec.ofChange shiftScopesSpec)

/-- ITS FALSE NEIGHBOUR: 'it returns false'. Refute it at one input. -/
def shiftScopesWrong : ChangeSpec := { name := "shiftScopes", fn := fun _ => fun
  | [d1, d2, d3, d4] => { results := [.lit (.bool false)], args := [d1, d2, d3, d4] }
  | _ => none }
def ShiftScopesWrongFalsely : Prop := shiftScopesRow.holds Try.pinned (OpenSpec.ofChange shiftScopesWrong)

/-- 'amanuensislaw02.ShiftFar': WHATEVER THE INPUT: true; the input reads as it did. -/
def shiftFarSpec : ChangeSpec := { name := "shiftFar", fn := fun _ => fun
  | [d1, d2, d3] => { results := [.lit (.bool true)], args := [d1, d2, d3] }
  | _ => none }
def shiftFarRow : OpenClaim := { program := "ytojahppjdimdbaa", sum := "01d9f010962bcd9db16bff1d0b595de09275181dd452ebc1a22a725b5971868a", func := "amanuensis/amanuensislaw02.ShiftFar", spec := "shiftFar", unfollowed := true, recurses := true, loops := true, apart := false }
def ShiftFarSaid : Prop := shiftFarRow.holds Try.pinned (OpenSpec.ofChange shiftFarSpec)

/-- ITS FALSE NEIGHBOUR: 'it returns false'. Refute it at one input. -/
def shiftFarWrong : ChangeSpec := { name := "shiftFar", fn := fun _ => fun
  | [d1, d2, d3] => { results := [.lit (.bool false)], args := [d1, d2, d3] }
  | _ => none }
def ShiftFarWrongFalsely : Prop := shiftFarRow.holds Try.pinned (OpenSpec.ofChange shiftFarWrong)

/-- 'amanuensislaw03.SubstScopes': WHATEVER THE INPUT: true; the input reads as it did. -/
def substScopesSpec : ChangeSpec := { name := "substScopes", fn := fun _ => fun
  | [d1, d2, d3, d4] => { results := [.lit (.bool true)], args := [d1, d2, d3, d4] }
  | _ => none }
def substScopesRow : OpenClaim := { program := "ytojahppjdimdbaa", sum := "01d9f010962bcd9db16bff1d0b595de09275181dd452ebc1a22a725b5971868a", func := "amanuensis/amanuensislaw03.SubstScopes", spec := "substScopes", unfollowed := true, recurses := true, loops := true, apart := false }
def SubstScopesSaid : Prop := substScopesRow.holds Try.pinned (OpenSpec.ofChange substScopesSpec)

/-- ITS FALSE NEIGHBOUR: 'it returns false'. Refute it at one input. -/
def substScopesWrong : ChangeSpec := { name := "substScopes", fn := fun _ => fun
  | [d1, d2, d3, d4] => { results := [.lit (.bool false)], args := [d1, d2, d3, d4] }
  | _ => none }
def SubstScopesWrongFalsely : Prop := substScopesRow.holds Try.pinned (OpenSpec.ofChange substScopesWrong)

/-- 'amanuensislaw03.SubstSpines': WHATEVER THE INPUT: true; the input reads as it did. -/
def substSpinesSpec : ChangeSpec := { name := "substSpines", fn := fun _ => fun
  | [d1, d2, d3] => { results := [.lit (.bool true)], args := [d1, d2, d3] }
  | _ => none }
def substSpinesRow : OpenClaim := { program := "ytojahppjdimdbaa", sum := "01d9f010962bcd9db16bff1d0b595de09275181dd452ebc1a22a725b5971868a", func := "amanuensis/amanuensislaw03.SubstSpines", spec := "substSpines", unfollowed := true, recurses := true, loops := true, apart := false }
def SubstSpinesSaid : Prop := substSpinesRow.holds Try.pinned (OpenSpec.ofChange substSpinesSpec)

/-- ITS FALSE NEIGHBOUR: 'it returns false'. Refute it at one input. -/
def substSpinesWrong : ChangeSpec := { name := "substSpines", fn := fun _ => fun
  | [d1, d2, d3] => { results := [.lit (.bool false)], args := [d1, d2, d3] }
  | _ => none }
def SubstSpinesWrongFalsely : Prop := substSpinesRow.holds Try.pinned (OpenSpec.ofChange substSpinesWrong)

/-- 'amanuensislaw03.SubstWeakens': WHATEVER THE INPUT: true; the input reads as it did. -/
def substWeakensSpec : ChangeSpec := { name := "substWeakens", fn := fun _ => fun
  | [d1, d2, d3] => { results := [.lit (.bool true)], args := [d1, d2, d3] }
  | _ => none }
def substWeakensRow : OpenClaim := { program := "ytojahppjdimdbaa", sum := "01d9f010962bcd9db16bff1d0b595de09275181dd452ebc1a22a725b5971868a", func := "amanuensis/amanuensislaw03.SubstWeakens", spec := "substWeakens", unfollowed := true, recurses := true, loops := true, apart := false }
def SubstWeakensSaid : Prop := substWeakensRow.holds Try.pinned (OpenSpec.ofChange substWeakensSpec)

/-- ITS FALSE NEIGHBOUR: 'it returns false'. Refute it at one input. -/
def substWeakensWrong : ChangeSpec := { name := "substWeakens", fn := fun _ => fun
  | [d1, d2, d3] => { results := [.lit (.bool false)], args := [d1, d2, d3] }
  | _ => none }
def SubstWeakensWrongFalsely : Prop := substWeakensRow.holds Try.pinned (OpenSpec.ofChange substWeakensWrong)

/-- 'amanuensislaw03.SubstTwice': WHATEVER THE INPUT: true; the input reads as it did. -/
def substTwiceSpec : ChangeSpec := { name := "substTwice", fn := fun _ => fun
  | [d1, d2, d3] => { results := [.lit (.bool true)], args := [d1, d2, d3] }
  | _ => none }
def substTwiceRow : OpenClaim := { program := "ytojahppjdimdbaa", sum := "01d9f010962bcd9db16bff1d0b595de09275181dd452ebc1a22a725b5971868a", func := "amanuensis/amanuensislaw03.SubstTwice", spec := "substTwice", unfollowed := true, recurses := true, loops := true, apart := false }
def SubstTwiceSaid : Prop := substTwiceRow.holds Try.pinned (OpenSpec.ofChange substTwiceSpec)

/-- ITS FALSE NEIGHBOUR: 'it returns false'. Refute it at one input. -/
def substTwiceWrong : ChangeSpec := { name := "substTwice", fn := fun _ => fun
  | [d1, d2, d3] => { results := [.lit (.bool false)], args := [d1, d2, d3] }
  | _ => none }
def SubstTwiceWrongFalsely : Prop := substTwiceRow.holds Try.pinned (OpenSpec.ofChange substTwiceWrong)

/-- 'amanuensislaw03.SubstUnder': WHATEVER THE INPUT: true; the input reads as it did. -/
def substUnderSpec : ChangeSpec := { name := "substUnder", fn := fun _ => fun
  | [d1, d2, d3] => { results := [.lit (.bool true)], args := [d1, d2, d3] }
  | _ => none }
def substUnderRow : OpenClaim := { program := "ytojahppjdimdbaa", sum := "01d9f010962bcd9db16bff1d0b595de09275181dd452ebc1a22a725b5971868a", func := "amanuensis/amanuensislaw03.SubstUnder", spec := "substUnder", unfollowed := true, recurses := true, loops := true, apart := false }
def SubstUnderSaid : Prop := substUnderRow.holds Try.pinned (OpenSpec.ofChange substUnderSpec)

/-- ITS FALSE NEIGHBOUR: 'it returns false'. Refute it at one input. -/
def substUnderWrong : ChangeSpec := { name := "substUnder", fn := fun _ => fun
  | [d1, d2, d3] => { results := [.lit (.bool false)], args := [d1, d2, d3] }
  | _ => none }
def SubstUnderWrongFalsely : Prop := substUnderRow.holds Try.pinned (OpenSpec.ofChange substUnderWrong)

/-- 'amanuensislaw03.SubstUp': WHATEVER THE INPUT: true; the input reads as it did. -/
def substUpSpec : ChangeSpec := { name := "substUp", fn := fun _ => fun
  | [d1, d2] => { results := [.lit (.bool true)], args := [d1, d2] }
  | _ => none }
def substUpRow : OpenClaim := { program := "ytojahppjdimdbaa", sum := "01d9f010962bcd9db16bff1d0b595de09275181dd452ebc1a22a725b5971868a", func := "amanuensis/amanuensislaw03.SubstUp", spec := "substUp", unfollowed := true, recurses := true, loops := true, apart := false }
def SubstUpSaid : Prop := substUpRow.holds Try.pinned (OpenSpec.ofChange substUpSpec)

/-- ITS FALSE NEIGHBOUR: 'it returns false'. Refute it at one input. -/
def substUpWrong : ChangeSpec := { name := "substUp", fn := fun _ => fun
  | [d1, d2] => { results := [.lit (.bool false)], args := [d1, d2] }
  | _ => none }
def SubstUpWrongFalsely : Prop := substUpRow.holds Try.pinned (OpenSpec.ofChange substUpWrong)

/-- 'amanuensislaw03.SubstBeta': WHATEVER THE INPUT: true; the input reads as it did. -/
def substBetaSpec : ChangeSpec := { name := "substBeta", fn := fun _ => fun
  | [d1, d2, d3] => { results := [.lit (.bool true)], args := [d1, d2, d3] }
  | _ => none }
def substBetaRow : OpenClaim := { program := "ytojahppjdimdbaa", sum := "01d9f010962bcd9db16bff1d0b595de09275181dd452ebc1a22a725b5971868a", func := "amanuensis/amanuensislaw03.SubstBeta", spec := "substBeta", unfollowed := true, recurses := true, loops := true, apart := false }
def SubstBetaSaid : Prop := substBetaRow.holds Try.pinned (OpenSpec.ofChange substBetaSpec)

/-- ITS FALSE NEIGHBOUR: 'it returns false'. Refute it at one input. -/
def substBetaWrong : ChangeSpec := { name := "substBeta", fn := fun _ => fun
  | [d1, d2, d3] => { results := [.lit (.bool false)], args := [d1, d2, d3] }
  | _ => none }
def SubstBetaWrongFalsely : Prop := substBetaRow.holds Try.pinned (OpenSpec.ofChange substBetaWrong)

/- THE SECOND FORM. 'bulk': how many values and letters a reading holds, each counted each time it is reached (what is shared counts as often as it is met; a slice's spare places count too). A statement '..UptoSaid' is the law's where the arguments, and the package variables that the reading takes, are together of bulk at most 1048576: NARROWER than '..Said'. Prove '..Said' where nothing that the law and all that it calls make is longer than what came in: it says more and counts as full. Else prove '..UptoSaid'. A law counts once. -/
mutual
def uptoBulk {H : Type} : DataW H → Nat
  | .lit (.string bytes) => bytes.length + 1
  | .lit _ => 1
  | .nil => 1
  | .ptr d => uptoBulk d + 1
  | .slice elems spare => uptoBulkAll elems + uptoBulkAll spare + 1
  | .agg parts => uptoBulkAll parts + 1
  | .iface _ d => uptoBulk d + 1
  | .map entries => uptoBulkEntries entries + 1
  | .held _ => 1
def uptoBulkAll {H : Type} : List (DataW H) → Nat
  | [] => 0
  | d :: r => uptoBulk d + uptoBulkAll r
def uptoBulkEntries {H : Type} : List (Lit × DataW H) → Nat
  | [] => 0
  | x :: r => uptoBulkEntry x + uptoBulkEntries r
def uptoBulkEntry {H : Type} : Lit × DataW H → Nat
  | (.string bytes, d) => bytes.length + uptoBulk d + 1
  | (_, d) => uptoBulk d + 1
 end
def uptoSmall : (H : Type) → List (DataW H) → Bool := fun _ ds => decide (uptoBulkAll ds ≤ 1048576)
def OpenSpec.upto (s : _root_.Go.ChangeSpec) : _root_.Go.OpenSpec := { _root_.Go.OpenSpec.ofChange s with cond := some uptoSmall }

/-- 'amanuensislaw02.ShiftTells', WHERE WHAT IT READS IS OF BULK AT MOST 1048576: true; the input reads as it did. -/
def shiftTellsUptoRow : OpenClaim := { program := "ytojahppjdimdbaa", sum := "01d9f010962bcd9db16bff1d0b595de09275181dd452ebc1a22a725b5971868a", func := "amanuensis/amanuensislaw02.ShiftTells", spec := "shiftTells", unfollowed := true, recurses := true, loops := true, apart := false, narrowed := true }
def ShiftTellsUptoSaid : Prop := shiftTellsUptoRow.holds Try.pinned (OpenSpec.upto shiftTellsSpec)

/-- 'amanuensislaw02.ShiftOwn', WHERE WHAT IT READS IS OF BULK AT MOST 1048576: true; the input reads as it did. -/
def shiftOwnUptoRow : OpenClaim := { program := "ytojahppjdimdbaa", sum := "01d9f010962bcd9db16bff1d0b595de09275181dd452ebc1a22a725b5971868a", func := "amanuensis/amanuensislaw02.ShiftOwn", spec := "shiftOwn", unfollowed := true, recurses := true, loops := true, apart := false, narrowed := true }
def ShiftOwnUptoSaid : Prop := shiftOwnUptoRow.holds Try.pinned (OpenSpec.upto shiftOwnSpec)

/-- 'amanuensislaw02.ShiftBack', WHERE WHAT IT READS IS OF BULK AT MOST 1048576: true; the input reads as it did. -/
def shiftBackUptoRow : OpenClaim := { program := "ytojahppjdimdbaa", sum := "01d9f010962bcd9db16bff1d0b595de09275181dd452ebc1a22a725b5971868a", func := "amanuensis/amanuensislaw02.ShiftBack", spec := "shiftBack", unfollowed := true, recurses := true, loops := true, apart := false, narrowed := true }
def ShiftBackUptoSaid : Prop := shiftBackUptoRow.holds Try.pinned (OpenSpec.upto shiftBackSpec)

/-- 'amanuensislaw02.ShiftParts', WHERE WHAT IT READS IS OF BULK AT MOST 1048576: true; the input reads as it did. -/
def shiftPartsUptoRow : OpenClaim := { program := "ytojahppjdimdbaa", sum := "01d9f010962bcd9db16bff1d0b595de09275181dd452ebc1a22a725b5971868a", func := "amanuensis/amanuensislaw02.ShiftParts", spec := "shiftParts", unfollowed := true, recurses := true, loops := true, apart := false, narrowed := true }
def ShiftPartsUptoSaid : Prop := shiftPartsUptoRow.holds Try.pinned (OpenSpec.upto shiftPartsSpec)

/-- 'amanuensislaw02.ShiftScopes', WHERE WHAT IT READS IS OF BULK AT MOST 1048576: true; the input reads as it did. -/
def shiftScopesUptoRow : OpenClaim := { program := "ytojahppjdimdbaa", sum := "01d9f010962bcd9db16bff1d0b595de09275181dd452ebc1a22a725b5971868a", func := "amanuensis/amanuensislaw02.ShiftScopes", spec := "shiftScopes", unfollowed := true, recurses := true, loops := true, apart := false, narrowed := true }
def ShiftScopesUptoSaid : Prop := shiftScopesUptoRow.holds Try.pinned (OpenSpec.upto shiftScopesSpec)

/-- 'amanuensislaw02.ShiftFar', WHERE WHAT IT READS IS OF BULK AT MOST 1048576: true; the input reads as it did. -/
def shiftFarUptoRow : OpenClaim := { program := "ytojahppjdimdbaa", sum := "01d9f010962bcd9db16bff1d0b595de09275181dd452ebc1a22a725b5971868a", func := "amanuensis/amanuensislaw02.ShiftFar", spec := "shiftFar", unfollowed := true, recurses := true, loops := true, apart := false, narrowed := true }
def ShiftFarUptoSaid : Prop := shiftFarUptoRow.holds Try.pinned (OpenSpec.upto shiftFarSpec)

/-- 'amanuensislaw03.SubstScopes', WHERE WHAT IT READS IS OF BULK AT MOST 1048576: true; the input reads as it did. -/
def substScopesUptoRow : OpenClaim := { program := "ytojahppjdimdbaa", sum := "01d9f010962bcd9db16bff1d0b595de09275181dd452ebc1a22a725b5971868a", func := "amanuensis/amanuensislaw03.SubstScopes", spec := "substScopes", unfollowed := true, recurses := true, loops := true, apart := false, narrowed := true }
def SubstScopesUptoSaid : Prop := substScopesUptoRow.holds Try.pinned (OpenSpec.upto substScopesSpec)

/-- 'amanuensislaw03.SubstSpines', WHERE WHAT IT READS IS OF BULK AT MOST 1048576: true; the input reads as it did. -/
def substSpinesUptoRow : OpenClaim := { program := "ytojahppjdimdbaa", sum := "01d9f010962bcd9db16bff1d0b595de09275181dd452ebc1a22a725b5971868a", func := "amanuensis/amanuensislaw03.SubstSpines", spec := "substSpines", unfollowed := true, recurses := true, loops := true, apart := false, narrowed := true }
def SubstSpinesUptoSaid : Prop := substSpinesUptoRow.holds Try.pinned (OpenSpec.upto substSpinesSpec)

/-- 'amanuensislaw03.SubstWeakens', WHERE WHAT IT READS IS OF BULK AT MOST 1048576: true; the input reads as it did. -/
def substWeakensUptoRow : OpenClaim := { program := "ytojahppjdimdbaa", sum := "01d9f010962bcd9db16bff1d0b595de09275181dd452ebc1a22a725b5971868a", func := "amanuensis/amanuensislaw03.SubstWeakens", spec := "substWeakens", unfollowed := true, recurses := true, loops := true, apart := false, narrowed := true }
def SubstWeakensUptoSaid : Prop := substWeakensUptoRow.holds Try.pinned (OpenSpec.upto substWeakensSpec)

/-- 'amanuensislaw03.SubstTwice', WHERE WHAT IT READS IS OF BULK AT MOST 1048576: true; the input reads as it did. -/
def substTwiceUptoRow : OpenClaim := { program := "ytojahppjdimdbaa", sum := "01d9f010962bcd9db16bff1d0b595de09275181dd452ebc1a22a725b5971868a", func := "amanuensis/amanuensislaw03.SubstTwice", spec := "substTwice", unfollowed := true, recurses := true, loops := true, apart := false, narrowed := true }
def SubstTwiceUptoSaid : Prop := substTwiceUptoRow.holds Try.pinned (OpenSpec.upto substTwiceSpec)

/-- 'amanuensislaw03.SubstUnder', WHERE WHAT IT READS IS OF BULK AT MOST 1048576: true; the input reads as it did. -/
def substUnderUptoRow : OpenClaim := { program := "ytojahppjdimdbaa", sum := "01d9f010962bcd9db16bff1d0b595de09275181dd452ebc1a22a725b5971868a", func := "amanuensis/amanuensislaw03.SubstUnder", spec := "substUnder", unfollowed := true, recurses := true, loops := true, apart := false, narrowed := true }
def SubstUnderUptoSaid : Prop := substUnderUptoRow.holds Try.pinned (OpenSpec.upto substUnderSpec)

/-- 'amanuensislaw03.SubstUp', WHERE WHAT IT READS IS OF BULK AT MOST 1048576: true; the input reads as it did. -/
def substUpUptoRow : OpenClaim := { program := "ytojahppjdimdbaa", sum := "01d9f010962bcd9db16bff1d0b595de09275181dd452ebc1a22a725b5971868a", func := "amanuensis/amanuensislaw03.SubstUp", spec := "substUp", unfollowed := true, recurses := true, loops := true, apart := false, narrowed := true }
def SubstUpUptoSaid : Prop := substUpUptoRow.holds Try.pinned (OpenSpec.upto substUpSpec)

/-- 'amanuensislaw03.SubstBeta', WHERE WHAT IT READS IS OF BULK AT MOST 1048576: true; the input reads as it did. -/
def substBetaUptoRow : OpenClaim := { program := "ytojahppjdimdbaa", sum := "01d9f010962bcd9db16bff1d0b595de09275181dd452ebc1a22a725b5971868a", func := "amanuensis/amanuensislaw03.SubstBeta", spec := "substBeta", unfollowed := true, recurses := true, loops := true, apart := false, narrowed := true }
def SubstBetaUptoSaid : Prop := substBetaUptoRow.holds Try.pinned (OpenSpec.upto substBetaSpec)

end Rows
end Go.Proofs.Ytojahppjdimdbaa
