/-
  NARROWER THAN 'FOR EVERY INPUT', by the rows' own cells (each row's printed sentence says how): MetaScopes: loops · MetaFills: loops · MetaNone: loops · MetaTwice: loops · MetaWhole: loops · MetaLists: loops · CheckTerms: loops · CheckLam: loops · CheckMore: loops · CheckOne: loops · CheckFew: loops · CheckTypes: loops · CheckFront: loops · CheckSubst: loops · CheckPi: loops.
  DERIVED. THE GIVEN ROWS OF THIS SEAT. 15 by the template 'for every input the law returns true; each argument reads behind the call as it read before'; 0 by the template 'total and deterministic' (their statements: YtmemmdfjlhamfaaTotals.lean).
  GIVEN WITH THE SEED: the statements are not yours to turn. If you find one false, say at which input.
  Laid BY PROGRAM, IN A SANDBOX (cutbox-rows.mjs): the forced cells as the released guide's own fill.sh prints them over the translation 01d2516924b4903d… (all of the seat's roots in one cut). By AI agents, Wed Nov 11 2026. No macro, syntax, notation, axiom, sorry.
-/
import Derived.Test.YtmemmdfjlhamfaaChecked
import GoSem.Claim
import GoSem.ClaimJoined
import GoSem.ClaimMapViews
import Derived.JoinedTies
import Derived.KernelRfl
namespace Go.Proofs.Ytmemmdfjlhamfaa
/- THE CELL 'sum', in the pinned program and in every row, IS THE sha256 OF THE DUMP (.gsa) THAT YtmemmdfjlhamfaaProg.lean LOADS. Nothing in Lean hashes anything: it is a label: what it is worth is what the hold of that sum in a sandbox is worth. -/
noncomputable def Try.pinned : Pinned := { name := "ytmemmdfjlhamfaa", sum := "01d2516924b4903def587ce9146421e7869b324a32c137e9cb02904d91c54f52", checked := Try.checked }
namespace Rows
def none {H : Type} : Left H := { results := [], args := [] }

/-- 'amanuensislaw04.MetaScopes': WHATEVER THE INPUT: true; the input reads as it did. -/
def metaScopesSpec : ChangeSpec := { name := "metaScopes", fn := fun _ => fun
  | [d1, d2, d3, d4] => { results := [.lit (.bool true)], args := [d1, d2, d3, d4] }
  | _ => none }
def metaScopesRow : OpenClaim := { program := "ytmemmdfjlhamfaa", sum := "01d2516924b4903def587ce9146421e7869b324a32c137e9cb02904d91c54f52", func := "amanuensis/amanuensislaw04.MetaScopes", spec := "metaScopes", unfollowed := true, recurses := true, loops := true, apart := false }
def MetaScopesSaid : Prop := metaScopesRow.holds Try.pinned (OpenSpec.ofChange metaScopesSpec)

/-- ITS FALSE NEIGHBOUR: 'it returns false'. Refute it at one input. -/
def metaScopesWrong : ChangeSpec := { name := "metaScopes", fn := fun _ => fun
  | [d1, d2, d3, d4] => { results := [.lit (.bool false)], args := [d1, d2, d3, d4] }
  | _ => none }
def MetaScopesWrongFalsely : Prop := metaScopesRow.holds Try.pinned (OpenSpec.ofChange metaScopesWrong)

/-- 'amanuensislaw04.MetaFills': WHATEVER THE INPUT: true; the input reads as it did. -/
def metaFillsSpec : ChangeSpec := { name := "metaFills", fn := fun _ => fun
  | [d1, d2, d3, d4, d5] => { results := [.lit (.bool true)], args := [d1, d2, d3, d4, d5] }
  | _ => none }
def metaFillsRow : OpenClaim := { program := "ytmemmdfjlhamfaa", sum := "01d2516924b4903def587ce9146421e7869b324a32c137e9cb02904d91c54f52", func := "amanuensis/amanuensislaw04.MetaFills", spec := "metaFills", unfollowed := true, recurses := true, loops := true, apart := false }
def MetaFillsSaid : Prop := metaFillsRow.holds Try.pinned (OpenSpec.ofChange metaFillsSpec)

/-- ITS FALSE NEIGHBOUR: 'it returns false'. Refute it at one input. -/
def metaFillsWrong : ChangeSpec := { name := "metaFills", fn := fun _ => fun
  | [d1, d2, d3, d4, d5] => { results := [.lit (.bool false)], args := [d1, d2, d3, d4, d5] }
  | _ => none }
def MetaFillsWrongFalsely : Prop := metaFillsRow.holds Try.pinned (OpenSpec.ofChange metaFillsWrong)

/-- 'amanuensislaw04.MetaNone': WHATEVER THE INPUT: true; the input reads as it did. -/
def metaNoneSpec : ChangeSpec := { name := "metaNone", fn := fun _ => fun
  | [d1, d2, d3] => { results := [.lit (.bool true)], args := [d1, d2, d3] }
  | _ => none }
def metaNoneRow : OpenClaim := { program := "ytmemmdfjlhamfaa", sum := "01d2516924b4903def587ce9146421e7869b324a32c137e9cb02904d91c54f52", func := "amanuensis/amanuensislaw04.MetaNone", spec := "metaNone", unfollowed := true, recurses := true, loops := true, apart := false }
def MetaNoneSaid : Prop := metaNoneRow.holds Try.pinned (OpenSpec.ofChange metaNoneSpec)

/-- ITS FALSE NEIGHBOUR: 'it returns false'. Refute it at one input. -/
def metaNoneWrong : ChangeSpec := { name := "metaNone", fn := fun _ => fun
  | [d1, d2, d3] => { results := [.lit (.bool false)], args := [d1, d2, d3] }
  | _ => none }
def MetaNoneWrongFalsely : Prop := metaNoneRow.holds Try.pinned (OpenSpec.ofChange metaNoneWrong)

/-- 'amanuensislaw04.MetaTwice': WHATEVER THE INPUT: true; the input reads as it did. -/
def metaTwiceSpec : ChangeSpec := { name := "metaTwice", fn := fun _ => fun
  | [d1, d2, d3] => { results := [.lit (.bool true)], args := [d1, d2, d3] }
  | _ => none }
def metaTwiceRow : OpenClaim := { program := "ytmemmdfjlhamfaa", sum := "01d2516924b4903def587ce9146421e7869b324a32c137e9cb02904d91c54f52", func := "amanuensis/amanuensislaw04.MetaTwice", spec := "metaTwice", unfollowed := true, recurses := true, loops := true, apart := false }
def MetaTwiceSaid : Prop := metaTwiceRow.holds Try.pinned (OpenSpec.ofChange metaTwiceSpec)

/-- ITS FALSE NEIGHBOUR: 'it returns false'. Refute it at one input. -/
def metaTwiceWrong : ChangeSpec := { name := "metaTwice", fn := fun _ => fun
  | [d1, d2, d3] => { results := [.lit (.bool false)], args := [d1, d2, d3] }
  | _ => none }
def MetaTwiceWrongFalsely : Prop := metaTwiceRow.holds Try.pinned (OpenSpec.ofChange metaTwiceWrong)

/-- 'amanuensislaw04.MetaWhole': WHATEVER THE INPUT: true; the input reads as it did. -/
def metaWholeSpec : ChangeSpec := { name := "metaWhole", fn := fun _ => fun
  | [d1, d2, d3] => { results := [.lit (.bool true)], args := [d1, d2, d3] }
  | _ => none }
def metaWholeRow : OpenClaim := { program := "ytmemmdfjlhamfaa", sum := "01d2516924b4903def587ce9146421e7869b324a32c137e9cb02904d91c54f52", func := "amanuensis/amanuensislaw04.MetaWhole", spec := "metaWhole", unfollowed := true, recurses := true, loops := true, apart := false }
def MetaWholeSaid : Prop := metaWholeRow.holds Try.pinned (OpenSpec.ofChange metaWholeSpec)

/-- ITS FALSE NEIGHBOUR: 'it returns false'. Refute it at one input. -/
def metaWholeWrong : ChangeSpec := { name := "metaWhole", fn := fun _ => fun
  | [d1, d2, d3] => { results := [.lit (.bool false)], args := [d1, d2, d3] }
  | _ => none }
def MetaWholeWrongFalsely : Prop := metaWholeRow.holds Try.pinned (OpenSpec.ofChange metaWholeWrong)

/-- 'amanuensislaw04.MetaLists': WHATEVER THE INPUT: true; the input reads as it did. -/
def metaListsSpec : ChangeSpec := { name := "metaLists", fn := fun _ => fun
  | [d1, d2, d3, d4] => { results := [.lit (.bool true)], args := [d1, d2, d3, d4] }
  | _ => none }
def metaListsRow : OpenClaim := { program := "ytmemmdfjlhamfaa", sum := "01d2516924b4903def587ce9146421e7869b324a32c137e9cb02904d91c54f52", func := "amanuensis/amanuensislaw04.MetaLists", spec := "metaLists", unfollowed := true, recurses := true, loops := true, apart := false }
def MetaListsSaid : Prop := metaListsRow.holds Try.pinned (OpenSpec.ofChange metaListsSpec)

/-- ITS FALSE NEIGHBOUR: 'it returns false'. Refute it at one input. -/
def metaListsWrong : ChangeSpec := { name := "metaLists", fn := fun _ => fun
  | [d1, d2, d3, d4] => { results := [.lit (.bool false)], args := [d1, d2, d3, d4] }
  | _ => none }
def MetaListsWrongFalsely : Prop := metaListsRow.holds Try.pinned (OpenSpec.ofChange metaListsWrong)

/-- 'amanuensislaw10.CheckTerms': WHATEVER THE INPUT: true; the input reads as it did. -/
def checkTermsSpec : ChangeSpec := { name := "checkTerms", fn := fun _ => fun
  | [d1, d2, d3, d4, d5] => { results := [.lit (.bool true)], args := [d1, d2, d3, d4, d5] }
  | _ => none }
def checkTermsRow : OpenClaim := { program := "ytmemmdfjlhamfaa", sum := "01d2516924b4903def587ce9146421e7869b324a32c137e9cb02904d91c54f52", func := "amanuensis/amanuensislaw10.CheckTerms", spec := "checkTerms", unfollowed := true, recurses := true, loops := true, apart := false }
def CheckTermsSaid : Prop := checkTermsRow.holds Try.pinned (OpenSpec.ofChange checkTermsSpec)

/-- ITS FALSE NEIGHBOUR: 'it returns false'. Refute it at one input. -/
def checkTermsWrong : ChangeSpec := { name := "checkTerms", fn := fun _ => fun
  | [d1, d2, d3, d4, d5] => { results := [.lit (.bool false)], args := [d1, d2, d3, d4, d5] }
  | _ => none }
def CheckTermsWrongFalsely : Prop := checkTermsRow.holds Try.pinned (OpenSpec.ofChange checkTermsWrong)

/-- 'amanuensislaw10.CheckLam': WHATEVER THE INPUT: true; the input reads as it did. -/
def checkLamSpec : ChangeSpec := { name := "checkLam", fn := fun _ => fun
  | [d1, d2, d3, d4, d5] => { results := [.lit (.bool true)], args := [d1, d2, d3, d4, d5] }
  | _ => none }
def checkLamRow : OpenClaim := { program := "ytmemmdfjlhamfaa", sum := "01d2516924b4903def587ce9146421e7869b324a32c137e9cb02904d91c54f52", func := "amanuensis/amanuensislaw10.CheckLam", spec := "checkLam", unfollowed := true, recurses := true, loops := true, apart := false }
def CheckLamSaid : Prop := checkLamRow.holds Try.pinned (OpenSpec.ofChange checkLamSpec)

/-- ITS FALSE NEIGHBOUR: 'it returns false'. Refute it at one input. -/
def checkLamWrong : ChangeSpec := { name := "checkLam", fn := fun _ => fun
  | [d1, d2, d3, d4, d5] => { results := [.lit (.bool false)], args := [d1, d2, d3, d4, d5] }
  | _ => none }
def CheckLamWrongFalsely : Prop := checkLamRow.holds Try.pinned (OpenSpec.ofChange checkLamWrong)

/-- 'amanuensislaw10.CheckMore': WHATEVER THE INPUT: true; the input reads as it did. -/
def checkMoreSpec : ChangeSpec := { name := "checkMore", fn := fun _ => fun
  | [d1, d2, d3, d4, d5, d6, d7] => { results := [.lit (.bool true)], args := [d1, d2, d3, d4, d5, d6, d7] }
  | _ => none }
def checkMoreRow : OpenClaim := { program := "ytmemmdfjlhamfaa", sum := "01d2516924b4903def587ce9146421e7869b324a32c137e9cb02904d91c54f52", func := "amanuensis/amanuensislaw10.CheckMore", spec := "checkMore", unfollowed := true, recurses := true, loops := true, apart := false }
def CheckMoreSaid : Prop := checkMoreRow.holds Try.pinned (OpenSpec.ofChange checkMoreSpec)

/-- ITS FALSE NEIGHBOUR: 'it returns false'. Refute it at one input. -/
def checkMoreWrong : ChangeSpec := { name := "checkMore", fn := fun _ => fun
  | [d1, d2, d3, d4, d5, d6, d7] => { results := [.lit (.bool false)], args := [d1, d2, d3, d4, d5, d6, d7] }
  | _ => none }
def CheckMoreWrongFalsely : Prop := checkMoreRow.holds Try.pinned (OpenSpec.ofChange checkMoreWrong)

/-- 'amanuensislaw10.CheckOne': WHATEVER THE INPUT: true; the input reads as it did. -/
def checkOneSpec : ChangeSpec := { name := "checkOne", fn := fun _ => fun
  | [d1, d2, d3, d4, d5, d6] => { results := [.lit (.bool true)], args := [d1, d2, d3, d4, d5, d6] }
  | _ => none }
def checkOneRow : OpenClaim := { program := "ytmemmdfjlhamfaa", sum := "01d2516924b4903def587ce9146421e7869b324a32c137e9cb02904d91c54f52", func := "amanuensis/amanuensislaw10.CheckOne", spec := "checkOne", unfollowed := true, recurses := true, loops := true, apart := false }
def CheckOneSaid : Prop := checkOneRow.holds Try.pinned (OpenSpec.ofChange checkOneSpec)

/-- ITS FALSE NEIGHBOUR: 'it returns false'. Refute it at one input. -/
def checkOneWrong : ChangeSpec := { name := "checkOne", fn := fun _ => fun
  | [d1, d2, d3, d4, d5, d6] => { results := [.lit (.bool false)], args := [d1, d2, d3, d4, d5, d6] }
  | _ => none }
def CheckOneWrongFalsely : Prop := checkOneRow.holds Try.pinned (OpenSpec.ofChange checkOneWrong)

/-- 'amanuensislaw10.CheckFew': WHATEVER THE INPUT: true; the input reads as it did. -/
def checkFewSpec : ChangeSpec := { name := "checkFew", fn := fun _ => fun
  | [d1, d2, d3, d4, d5, d6] => { results := [.lit (.bool true)], args := [d1, d2, d3, d4, d5, d6] }
  | _ => none }
def checkFewRow : OpenClaim := { program := "ytmemmdfjlhamfaa", sum := "01d2516924b4903def587ce9146421e7869b324a32c137e9cb02904d91c54f52", func := "amanuensis/amanuensislaw10.CheckFew", spec := "checkFew", unfollowed := true, recurses := true, loops := true, apart := false }
def CheckFewSaid : Prop := checkFewRow.holds Try.pinned (OpenSpec.ofChange checkFewSpec)

/-- ITS FALSE NEIGHBOUR: 'it returns false'. Refute it at one input. -/
def checkFewWrong : ChangeSpec := { name := "checkFew", fn := fun _ => fun
  | [d1, d2, d3, d4, d5, d6] => { results := [.lit (.bool false)], args := [d1, d2, d3, d4, d5, d6] }
  | _ => none }
def CheckFewWrongFalsely : Prop := checkFewRow.holds Try.pinned (OpenSpec.ofChange checkFewWrong)

/-- 'amanuensislaw10.CheckTypes': WHATEVER THE INPUT: true; the input reads as it did. -/
def checkTypesSpec : ChangeSpec := { name := "checkTypes", fn := fun _ => fun
  | [d1, d2, d3, d4] => { results := [.lit (.bool true)], args := [d1, d2, d3, d4] }
  | _ => none }
def checkTypesRow : OpenClaim := { program := "ytmemmdfjlhamfaa", sum := "01d2516924b4903def587ce9146421e7869b324a32c137e9cb02904d91c54f52", func := "amanuensis/amanuensislaw10.CheckTypes", spec := "checkTypes", unfollowed := true, recurses := true, loops := true, apart := false }
def CheckTypesSaid : Prop := checkTypesRow.holds Try.pinned (OpenSpec.ofChange checkTypesSpec)

/-- ITS FALSE NEIGHBOUR: 'it returns false'. Refute it at one input. -/
def checkTypesWrong : ChangeSpec := { name := "checkTypes", fn := fun _ => fun
  | [d1, d2, d3, d4] => { results := [.lit (.bool false)], args := [d1, d2, d3, d4] }
  | _ => none }
def CheckTypesWrongFalsely : Prop := checkTypesRow.holds Try.pinned (OpenSpec.ofChange checkTypesWrong)

/-- 'amanuensislaw10.CheckFront': WHATEVER THE INPUT: true; the input reads as it did. -/
def checkFrontSpec : ChangeSpec := { name := "checkFront", fn := fun _ => fun
  | [d1, d2, d3, d4, d5] => { results := [.lit (.bool true)], args := [d1, d2, d3, d4, d5] }
  | _ => none }
def checkFrontRow : OpenClaim := { program := "ytmemmdfjlhamfaa", sum := "01d2516924b4903def587ce9146421e7869b324a32c137e9cb02904d91c54f52", func := "amanuensis/amanuensislaw10.CheckFront", spec := "checkFront", unfollowed := true, recurses := true, loops := true, apart := false }
def CheckFrontSaid : Prop := checkFrontRow.holds Try.pinned (OpenSpec.ofChange checkFrontSpec)

/-- ITS FALSE NEIGHBOUR: 'it returns false'. Refute it at one input. -/
def checkFrontWrong : ChangeSpec := { name := "checkFront", fn := fun _ => fun
  | [d1, d2, d3, d4, d5] => { results := [.lit (.bool false)], args := [d1, d2, d3, d4, d5] }
  | _ => none }
def CheckFrontWrongFalsely : Prop := checkFrontRow.holds Try.pinned (OpenSpec.ofChange checkFrontWrong)

/-- 'amanuensislaw10.CheckSubst': WHATEVER THE INPUT: true; the input reads as it did. -/
def checkSubstSpec : ChangeSpec := { name := "checkSubst", fn := fun _ => fun
  | [d1, d2, d3, d4, d5] => { results := [.lit (.bool true)], args := [d1, d2, d3, d4, d5] }
  | _ => none }
def checkSubstRow : OpenClaim := { program := "ytmemmdfjlhamfaa", sum := "01d2516924b4903def587ce9146421e7869b324a32c137e9cb02904d91c54f52", func := "amanuensis/amanuensislaw10.CheckSubst", spec := "checkSubst", unfollowed := true, recurses := true, loops := true, apart := false }
def CheckSubstSaid : Prop := checkSubstRow.holds Try.pinned (OpenSpec.ofChange checkSubstSpec)

/-- ITS FALSE NEIGHBOUR: 'it returns false'. Refute it at one input. -/
def checkSubstWrong : ChangeSpec := { name := "checkSubst", fn := fun _ => fun
  | [d1, d2, d3, d4, d5] => { results := [.lit (.bool false)], args := [d1, d2, d3, d4, d5] }
  | _ => none }
def CheckSubstWrongFalsely : Prop := checkSubstRow.holds Try.pinned (OpenSpec.ofChange checkSubstWrong)

/-- 'amanuensislaw10.CheckPi': WHATEVER THE INPUT: true; the input reads as it did. -/
def checkPiSpec : ChangeSpec := { name := "checkPi", fn := fun _ => fun
  | [d1, d2, d3, d4] => { results := [.lit (.bool true)], args := [d1, d2, d3, d4] }
  | _ => none }
def checkPiRow : OpenClaim := { program := "ytmemmdfjlhamfaa", sum := "01d2516924b4903def587ce9146421e7869b324a32c137e9cb02904d91c54f52", func := "amanuensis/amanuensislaw10.CheckPi", spec := "checkPi", unfollowed := true, recurses := true, loops := true, apart := false }
def CheckPiSaid : Prop := checkPiRow.holds Try.pinned (OpenSpec.ofChange checkPiSpec)

/-- ITS FALSE NEIGHBOUR: 'it returns false'. Refute it at one input. -/
def checkPiWrong : ChangeSpec := { name := "checkPi", fn := fun _ => fun
  | [d1, d2, d3, d4] => { results := [.lit (.bool false)], args := [d1, d2, d3, d4] }
  | _ => none }
def CheckPiWrongFalsely : Prop := checkPiRow.holds Try.pinned (OpenSpec.ofChange checkPiWrong)

/- THE SECOND FORM. 'bulk': how many values and letters a reading holds, each counted each time it is reached (what is shared counts as often as it is met; a slice's spare places count too). A statement '..UptoSaid' is the law's where the arguments, and the package variables that the reading takes, are together of bulk at most 1048576: NARROWER than '..Said'. Prove '..Said' where nothing that the law and all that it calls make is longer than what came in: it says more and counts as full. Else prove '..UptoSaid'. A law counts once. -/
mutual
def uptoBulk {H : Type} : DataW H → Nat
  | .lit (.string bytes) => bytes.length + 1
  | .lit _ => 1
  | .nil => 1
  | .ptr d => uptoBulk d + 1
  | .slice elems spare => uptoBulkAll elems + uptoBulkAll spare + 1
  | .agg parts => uptoBulkAll parts + 1
  | .iface _ d => uptoBulk d + 1
  | .map entries => uptoBulkEntries entries + 1
  | .held _ => 1
def uptoBulkAll {H : Type} : List (DataW H) → Nat
  | [] => 0
  | d :: r => uptoBulk d + uptoBulkAll r
def uptoBulkEntries {H : Type} : List (Lit × DataW H) → Nat
  | [] => 0
  | x :: r => uptoBulkEntry x + uptoBulkEntries r
def uptoBulkEntry {H : Type} : Lit × DataW H → Nat
  | (.string bytes, d) => bytes.length + uptoBulk d + 1
  | (_, d) => uptoBulk d + 1
 end
def uptoSmall : (H : Type) → List (DataW H) → Bool := fun _ ds => decide (uptoBulkAll ds ≤ 1048576)
def OpenSpec.upto (s : _root_.Go.ChangeSpec) : _root_.Go.OpenSpec := { _root_.Go.OpenSpec.ofChange s with cond := some uptoSmall }

/-- 'amanuensislaw04.MetaScopes', WHERE WHAT IT READS IS OF BULK AT MOST 1048576: true; the input reads as it did. -/
def metaScopesUptoRow : OpenClaim := { program := "ytmemmdfjlhamfaa", sum := "01d2516924b4903def587ce9146421e7869b324a32c137e9cb02904d91c54f52", func := "amanuensis/amanuensislaw04.MetaScopes", spec := "metaScopes", unfollowed := true, recurses := true, loops := true, apart := false, narrowed := true }
def MetaScopesUptoSaid : Prop := metaScopesUptoRow.holds Try.pinned (OpenSpec.upto metaScopesSpec)

/-- 'amanuensislaw04.MetaFills', WHERE WHAT IT READS IS OF BULK AT MOST 1048576: true; the input reads as it did. -/
def metaFillsUptoRow : OpenClaim := { program := "ytmemmdfjlhamfaa", sum := "01d2516924b4903def587ce9146421e7869b324a32c137e9cb02904d91c54f52", func := "amanuensis/amanuensislaw04.MetaFills", spec := "metaFills", unfollowed := true, recurses := true, loops := true, apart := false, narrowed := true }
def MetaFillsUptoSaid : Prop := metaFillsUptoRow.holds Try.pinned (OpenSpec.upto metaFillsSpec)

/-- 'amanuensislaw04.MetaNone', WHERE WHAT IT READS IS OF BULK AT MOST 1048576: true; the input reads as it did. -/
def metaNoneUptoRow : OpenClaim := { program := "ytmemmdfjlhamfaa", sum := "01d2516924b4903def587ce9146421e7869b324a32c137e9cb02904d91c54f52", func := "amanuensis/amanuensislaw04.MetaNone", spec := "metaNone", unfollowed := true, recurses := true, loops := true, apart := false, narrowed := true }
def MetaNoneUptoSaid : Prop := metaNoneUptoRow.holds Try.pinned (OpenSpec.upto metaNoneSpec)

/-- 'amanuensislaw04.MetaTwice', WHERE WHAT IT READS IS OF BULK AT MOST 1048576: true; the input reads as it did. -/
def metaTwiceUptoRow : OpenClaim := { program := "ytmemmdfjlhamfaa", sum := "01d2516924b4903def587ce9146421e7869b324a32c137e9cb02904d91c54f52", func := "amanuensis/amanuensislaw04.MetaTwice", spec := "metaTwice", unfollowed := true, recurses := true, loops := true, apart := false, narrowed := true }
def MetaTwiceUptoSaid : Prop := metaTwiceUptoRow.holds Try.pinned (OpenSpec.upto metaTwiceSpec)

/-- 'amanuensislaw04.MetaWhole', WHERE WHAT IT READS IS OF BULK AT MOST 1048576: true; the input reads as it did. -/
def metaWholeUptoRow : OpenClaim := { program := "ytmemmdfjlhamfaa", sum := "01d2516924b4903def587ce9146421e7869b324a32c137e9cb02904d91c54f52", func := "amanuensis/amanuensislaw04.MetaWhole", spec := "metaWhole", unfollowed := true, recurses := true, loops := true, apart := false, narrowed := true }
def MetaWholeUptoSaid : Prop := metaWholeUptoRow.holds Try.pinned (OpenSpec.upto metaWholeSpec)

/-- 'amanuensislaw04.MetaLists', WHERE WHAT IT READS IS OF BULK AT MOST 1048576: true; the input reads as it did. -/
def metaListsUptoRow : OpenClaim := { program := "ytmemmdfjlhamfaa", sum := "01d2516924b4903def587ce9146421e7869b324a32c137e9cb02904d91c54f52", func := "amanuensis/amanuensislaw04.MetaLists", spec := "metaLists", unfollowed := true, recurses := true, loops := true, apart := false, narrowed := true }
def MetaListsUptoSaid : Prop := metaListsUptoRow.holds Try.pinned (OpenSpec.upto metaListsSpec)

/-- 'amanuensislaw10.CheckTerms', WHERE WHAT IT READS IS OF BULK AT MOST 1048576: true; the input reads as it did. -/
def checkTermsUptoRow : OpenClaim := { program := "ytmemmdfjlhamfaa", sum := "01d2516924b4903def587ce9146421e7869b324a32c137e9cb02904d91c54f52", func := "amanuensis/amanuensislaw10.CheckTerms", spec := "checkTerms", unfollowed := true, recurses := true, loops := true, apart := false, narrowed := true }
def CheckTermsUptoSaid : Prop := checkTermsUptoRow.holds Try.pinned (OpenSpec.upto checkTermsSpec)

/-- 'amanuensislaw10.CheckLam', WHERE WHAT IT READS IS OF BULK AT MOST 1048576: true; the input reads as it did. -/
def checkLamUptoRow : OpenClaim := { program := "ytmemmdfjlhamfaa", sum := "01d2516924b4903def587ce9146421e7869b324a32c137e9cb02904d91c54f52", func := "amanuensis/amanuensislaw10.CheckLam", spec := "checkLam", unfollowed := true, recurses := true, loops := true, apart := false, narrowed := true }
def CheckLamUptoSaid : Prop := checkLamUptoRow.holds Try.pinned (OpenSpec.upto checkLamSpec)

/-- 'amanuensislaw10.CheckMore', WHERE WHAT IT READS IS OF BULK AT MOST 1048576: true; the input reads as it did. -/
def checkMoreUptoRow : OpenClaim := { program := "ytmemmdfjlhamfaa", sum := "01d2516924b4903def587ce9146421e7869b324a32c137e9cb02904d91c54f52", func := "amanuensis/amanuensislaw10.CheckMore", spec := "checkMore", unfollowed := true, recurses := true, loops := true, apart := false, narrowed := true }
def CheckMoreUptoSaid : Prop := checkMoreUptoRow.holds Try.pinned (OpenSpec.upto checkMoreSpec)

/-- 'amanuensislaw10.CheckOne', WHERE WHAT IT READS IS OF BULK AT MOST 1048576: true; the input reads as it did. -/
def checkOneUptoRow : OpenClaim := { program := "ytmemmdfjlhamfaa", sum := "01d2516924b4903def587ce9146421e7869b324a32c137e9cb02904d91c54f52", func := "amanuensis/amanuensislaw10.CheckOne", spec := "checkOne", unfollowed := true, recurses := true, loops := true, apart := false, narrowed := true }
def CheckOneUptoSaid : Prop := checkOneUptoRow.holds Try.pinned (OpenSpec.upto checkOneSpec)

/-- 'amanuensislaw10.CheckFew', WHERE WHAT IT READS IS OF BULK AT MOST 1048576: true; the input reads as it did. -/
def checkFewUptoRow : OpenClaim := { program := "ytmemmdfjlhamfaa", sum := "01d2516924b4903def587ce9146421e7869b324a32c137e9cb02904d91c54f52", func := "amanuensis/amanuensislaw10.CheckFew", spec := "checkFew", unfollowed := true, recurses := true, loops := true, apart := false, narrowed := true }
def CheckFewUptoSaid : Prop := checkFewUptoRow.holds Try.pinned (OpenSpec.upto checkFewSpec)

/-- 'amanuensislaw10.CheckTypes', WHERE WHAT IT READS IS OF BULK AT MOST 1048576: true; the input reads as it did. -/
def checkTypesUptoRow : OpenClaim := { program := "ytmemmdfjlhamfaa", sum := "01d2516924b4903def587ce9146421e7869b324a32c137e9cb02904d91c54f52", func := "amanuensis/amanuensislaw10.CheckTypes", spec := "checkTypes", unfollowed := true, recurses := true, loops := true, apart := false, narrowed := true }
def CheckTypesUptoSaid : Prop := checkTypesUptoRow.holds Try.pinned (OpenSpec.upto checkTypesSpec)

/-- 'amanuensislaw10.CheckFront', WHERE WHAT IT READS IS OF BULK AT MOST 1048576: true; the input reads as it did. -/
def checkFrontUptoRow : OpenClaim := { program := "ytmemmdfjlhamfaa", sum := "01d2516924b4903def587ce9146421e7869b324a32c137e9cb02904d91c54f52", func := "amanuensis/amanuensislaw10.CheckFront", spec := "checkFront", unfollowed := true, recurses := true, loops := true, apart := false, narrowed := true }
def CheckFrontUptoSaid : Prop := checkFrontUptoRow.holds Try.pinned (OpenSpec.upto checkFrontSpec)

/-- 'amanuensislaw10.CheckSubst', WHERE WHAT IT READS IS OF BULK AT MOST 1048576: true; the input reads as it did. -/
def checkSubstUptoRow : OpenClaim := { program := "ytmemmdfjlhamfaa", sum := "01d2516924b4903def587ce9146421e7869b324a32c137e9cb02904d91c54f52", func := "amanuensis/amanuensislaw10.CheckSubst", spec := "checkSubst", unfollowed := true, recurses := true, loops := true, apart := false, narrowed := true }
def CheckSubstUptoSaid : Prop := checkSubstUptoRow.holds Try.pinned (OpenSpec.upto checkSubstSpec)

/-- 'amanuensislaw10.CheckPi', WHERE WHAT IT READS IS OF BULK AT MOST 1048576: true; the input reads as it did. -/
def checkPiUptoRow : OpenClaim := { program := "ytmemmdfjlhamfaa", sum := "01d2516924b4903def587ce9146421e7869b324a32c137e9cb02904d91c54f52", func := "amanuensis/amanuensislaw10.CheckPi", spec := "checkPi", unfollowed := true, recurses := true, loops := true, apart := false, narrowed := true }
def CheckPiUptoSaid : Prop := checkPiUptoRow.holds Try.pinned (OpenSpec.upto checkPiSpec)

end Rows
end Go.Proofs.Ytmemmdfjlhamfaa
