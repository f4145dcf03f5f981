/-
  NARROWER THAN 'FOR EVERY INPUT', by the rows' own cells (each row's printed sentence says how): SignTells: loops · SignOnce: loops · SignMore: loops · TermTells: loops · TermScopes: loops · TermCounts: loops · TermParts: loops · SignPis: loops · TermSame: loops · TermOwn: loops · SignJoins: loops.
  DERIVED. THE GIVEN ROWS OF THIS SEAT. 11 by the template 'for every input the law returns true; each argument reads behind the call as it read before'; 0 by the template 'total and deterministic' (their statements: YtfelfahgeannaaaTotals.lean).
  GIVEN WITH THE SEED: the statements are not yours to turn. If you find one false, say at which input.
  Laid BY PROGRAM, IN A SANDBOX (cutbox-rows.mjs): the forced cells as the released guide's own fill.sh prints them over the translation a55e5404b253db76… (all of the seat's roots in one cut). By AI agents, Wed Nov 11 2026. No macro, syntax, notation, axiom, sorry.
-/
import Derived.Test.YtfelfahgeannaaaChecked
import GoSem.Claim
import GoSem.ClaimJoined
import GoSem.ClaimMapViews
import Derived.JoinedTies
import Derived.KernelRfl
namespace Go.Proofs.Ytfelfahgeannaaa
/- THE CELL 'sum', in the pinned program and in every row, IS THE sha256 OF THE DUMP (.gsa) THAT YtfelfahgeannaaaProg.lean LOADS. Nothing in Lean hashes anything: it is a label: what it is worth is what the hold of that sum in a sandbox is worth. -/
noncomputable def Try.pinned : Pinned := { name := "ytfelfahgeannaaa", sum := "a55e5404b253db76b86cb33a55886178ff8573714f51bae08b281dca86b49bb0", checked := Try.checked }
namespace Rows
def none {H : Type} : Left H := { results := [], args := [] }

/-- 'amanuensislaw09.SignTells': WHATEVER THE INPUT: true; the input reads as it did. -/
def signTellsSpec : ChangeSpec := { name := "signTells", fn := fun _ => fun
  | [d1, d2, d3] => { results := [.lit (.bool true)], args := [d1, d2, d3] }
  | _ => none }
def signTellsRow : OpenClaim := { program := "ytfelfahgeannaaa", sum := "a55e5404b253db76b86cb33a55886178ff8573714f51bae08b281dca86b49bb0", func := "amanuensis/amanuensislaw09.SignTells", spec := "signTells", unfollowed := true, recurses := true, loops := true, apart := false }
def SignTellsSaid : Prop := signTellsRow.holds Try.pinned (OpenSpec.ofChange signTellsSpec)

/-- ITS FALSE NEIGHBOUR: 'it returns false'. Refute it at one input. -/
def signTellsWrong : ChangeSpec := { name := "signTells", fn := fun _ => fun
  | [d1, d2, d3] => { results := [.lit (.bool false)], args := [d1, d2, d3] }
  | _ => none }
def SignTellsWrongFalsely : Prop := signTellsRow.holds Try.pinned (OpenSpec.ofChange signTellsWrong)

/-- 'amanuensislaw09.SignOnce': WHATEVER THE INPUT: true; the input reads as it did. -/
def signOnceSpec : ChangeSpec := { name := "signOnce", fn := fun _ => fun
  | [d1, d2] => { results := [.lit (.bool true)], args := [d1, d2] }
  | _ => none }
def signOnceRow : OpenClaim := { program := "ytfelfahgeannaaa", sum := "a55e5404b253db76b86cb33a55886178ff8573714f51bae08b281dca86b49bb0", func := "amanuensis/amanuensislaw09.SignOnce", spec := "signOnce", unfollowed := true, recurses := true, loops := true, apart := false }
def SignOnceSaid : Prop := signOnceRow.holds Try.pinned (OpenSpec.ofChange signOnceSpec)

/-- ITS FALSE NEIGHBOUR: 'it returns false'. Refute it at one input. -/
def signOnceWrong : ChangeSpec := { name := "signOnce", fn := fun _ => fun
  | [d1, d2] => { results := [.lit (.bool false)], args := [d1, d2] }
  | _ => none }
def SignOnceWrongFalsely : Prop := signOnceRow.holds Try.pinned (OpenSpec.ofChange signOnceWrong)

/-- 'amanuensislaw09.SignMore': WHATEVER THE INPUT: true; the input reads as it did. -/
def signMoreSpec : ChangeSpec := { name := "signMore", fn := fun _ => fun
  | [d1, d2, d3] => { results := [.lit (.bool true)], args := [d1, d2, d3] }
  | _ => none }
def signMoreRow : OpenClaim := { program := "ytfelfahgeannaaa", sum := "a55e5404b253db76b86cb33a55886178ff8573714f51bae08b281dca86b49bb0", func := "amanuensis/amanuensislaw09.SignMore", spec := "signMore", unfollowed := true, recurses := true, loops := true, apart := false }
def SignMoreSaid : Prop := signMoreRow.holds Try.pinned (OpenSpec.ofChange signMoreSpec)

/-- ITS FALSE NEIGHBOUR: 'it returns false'. Refute it at one input. -/
def signMoreWrong : ChangeSpec := { name := "signMore", fn := fun _ => fun
  | [d1, d2, d3] => { results := [.lit (.bool false)], args := [d1, d2, d3] }
  | _ => none }
def SignMoreWrongFalsely : Prop := signMoreRow.holds Try.pinned (OpenSpec.ofChange signMoreWrong)

/-- 'amanuensislaw01.TermTells': WHATEVER THE INPUT: true; the input reads as it did. -/
def termTellsSpec : ChangeSpec := { name := "termTells", fn := fun _ => fun
  | [d1, d2, d3] => { results := [.lit (.bool true)], args := [d1, d2, d3] }
  | _ => none }
def termTellsRow : OpenClaim := { program := "ytfelfahgeannaaa", sum := "a55e5404b253db76b86cb33a55886178ff8573714f51bae08b281dca86b49bb0", func := "amanuensis/amanuensislaw01.TermTells", spec := "termTells", unfollowed := true, recurses := true, loops := true, apart := false }
def TermTellsSaid : Prop := termTellsRow.holds Try.pinned (OpenSpec.ofChange termTellsSpec)

/-- ITS FALSE NEIGHBOUR: 'it returns false'. Refute it at one input. -/
def termTellsWrong : ChangeSpec := { name := "termTells", fn := fun _ => fun
  | [d1, d2, d3] => { results := [.lit (.bool false)], args := [d1, d2, d3] }
  | _ => none }
def TermTellsWrongFalsely : Prop := termTellsRow.holds Try.pinned (OpenSpec.ofChange termTellsWrong)

/-- 'amanuensislaw01.TermScopes': WHATEVER THE INPUT: true; the input reads as it did. -/
def termScopesSpec : ChangeSpec := { name := "termScopes", fn := fun _ => fun
  | [d1, d2, d3, d4] => { results := [.lit (.bool true)], args := [d1, d2, d3, d4] }
  | _ => none }
def termScopesRow : OpenClaim := { program := "ytfelfahgeannaaa", sum := "a55e5404b253db76b86cb33a55886178ff8573714f51bae08b281dca86b49bb0", func := "amanuensis/amanuensislaw01.TermScopes", spec := "termScopes", unfollowed := true, recurses := true, loops := true, apart := false }
def TermScopesSaid : Prop := termScopesRow.holds Try.pinned (OpenSpec.ofChange termScopesSpec)

/-- ITS FALSE NEIGHBOUR: 'it returns false'. Refute it at one input. -/
def termScopesWrong : ChangeSpec := { name := "termScopes", fn := fun _ => fun
  | [d1, d2, d3, d4] => { results := [.lit (.bool false)], args := [d1, d2, d3, d4] }
  | _ => none }
def TermScopesWrongFalsely : Prop := termScopesRow.holds Try.pinned (OpenSpec.ofChange termScopesWrong)

/-- 'amanuensislaw01.TermCounts': WHATEVER THE INPUT: true; the input reads as it did. -/
def termCountsSpec : ChangeSpec := { name := "termCounts", fn := fun _ => fun
  | [d] => { results := [.lit (.bool true)], args := [d] }
  | _ => none }
def termCountsRow : OpenClaim := { program := "ytfelfahgeannaaa", sum := "a55e5404b253db76b86cb33a55886178ff8573714f51bae08b281dca86b49bb0", func := "amanuensis/amanuensislaw01.TermCounts", spec := "termCounts", unfollowed := true, recurses := true, loops := true, apart := false }
def TermCountsSaid : Prop := termCountsRow.holds Try.pinned (OpenSpec.ofChange termCountsSpec)

/-- ITS FALSE NEIGHBOUR: 'it returns false'. Refute it at one input. -/
def termCountsWrong : ChangeSpec := { name := "termCounts", fn := fun _ => fun
  | [d] => { results := [.lit (.bool false)], args := [d] }
  | _ => none }
def TermCountsWrongFalsely : Prop := termCountsRow.holds Try.pinned (OpenSpec.ofChange termCountsWrong)

/-- 'amanuensislaw01.TermParts': WHATEVER THE INPUT: true; the input reads as it did. -/
def termPartsSpec : ChangeSpec := { name := "termParts", fn := fun _ => fun
  | [d] => { results := [.lit (.bool true)], args := [d] }
  | _ => none }
def termPartsRow : OpenClaim := { program := "ytfelfahgeannaaa", sum := "a55e5404b253db76b86cb33a55886178ff8573714f51bae08b281dca86b49bb0", func := "amanuensis/amanuensislaw01.TermParts", spec := "termParts", unfollowed := true, recurses := true, loops := true, apart := false }
def TermPartsSaid : Prop := termPartsRow.holds Try.pinned (OpenSpec.ofChange termPartsSpec)

/-- ITS FALSE NEIGHBOUR: 'it returns false'. Refute it at one input. -/
def termPartsWrong : ChangeSpec := { name := "termParts", fn := fun _ => fun
  | [d] => { results := [.lit (.bool false)], args := [d] }
  | _ => none }
def TermPartsWrongFalsely : Prop := termPartsRow.holds Try.pinned (OpenSpec.ofChange termPartsWrong)

/-- 'amanuensislaw09.SignPis': WHATEVER THE INPUT: true; the input reads as it did. -/
def signPisSpec : ChangeSpec := { name := "signPis", fn := fun _ => fun
  | [d] => { results := [.lit (.bool true)], args := [d] }
  | _ => none }
def signPisRow : OpenClaim := { program := "ytfelfahgeannaaa", sum := "a55e5404b253db76b86cb33a55886178ff8573714f51bae08b281dca86b49bb0", func := "amanuensis/amanuensislaw09.SignPis", spec := "signPis", unfollowed := true, recurses := true, loops := true, apart := false }
def SignPisSaid : Prop := signPisRow.holds Try.pinned (OpenSpec.ofChange signPisSpec)

/-- ITS FALSE NEIGHBOUR: 'it returns false'. Refute it at one input. -/
def signPisWrong : ChangeSpec := { name := "signPis", fn := fun _ => fun
  | [d] => { results := [.lit (.bool false)], args := [d] }
  | _ => none }
def SignPisWrongFalsely : Prop := signPisRow.holds Try.pinned (OpenSpec.ofChange signPisWrong)

/-- 'amanuensislaw01.TermSame': WHATEVER THE INPUT: true; the input reads as it did. -/
def termSameSpec : ChangeSpec := { name := "termSame", fn := fun _ => fun
  | [d1, d2] => { results := [.lit (.bool true)], args := [d1, d2] }
  | _ => none }
def termSameRow : OpenClaim := { program := "ytfelfahgeannaaa", sum := "a55e5404b253db76b86cb33a55886178ff8573714f51bae08b281dca86b49bb0", func := "amanuensis/amanuensislaw01.TermSame", spec := "termSame", unfollowed := true, recurses := true, loops := true, apart := false }
def TermSameSaid : Prop := termSameRow.holds Try.pinned (OpenSpec.ofChange termSameSpec)

/-- ITS FALSE NEIGHBOUR: 'it returns false'. Refute it at one input. -/
def termSameWrong : ChangeSpec := { name := "termSame", fn := fun _ => fun
  | [d1, d2] => { results := [.lit (.bool false)], args := [d1, d2] }
  | _ => none }
def TermSameWrongFalsely : Prop := termSameRow.holds Try.pinned (OpenSpec.ofChange termSameWrong)

/-- 'amanuensislaw01.TermOwn': WHATEVER THE INPUT: true; the input reads as it did. -/
def termOwnSpec : ChangeSpec := { name := "termOwn", fn := fun _ => fun
  | [d] => { results := [.lit (.bool true)], args := [d] }
  | _ => none }
def termOwnRow : OpenClaim := { program := "ytfelfahgeannaaa", sum := "a55e5404b253db76b86cb33a55886178ff8573714f51bae08b281dca86b49bb0", func := "amanuensis/amanuensislaw01.TermOwn", spec := "termOwn", unfollowed := true, recurses := true, loops := true, apart := false }
def TermOwnSaid : Prop := termOwnRow.holds Try.pinned (OpenSpec.ofChange termOwnSpec)

/-- ITS FALSE NEIGHBOUR: 'it returns false'. Refute it at one input. -/
def termOwnWrong : ChangeSpec := { name := "termOwn", fn := fun _ => fun
  | [d] => { results := [.lit (.bool false)], args := [d] }
  | _ => none }
def TermOwnWrongFalsely : Prop := termOwnRow.holds Try.pinned (OpenSpec.ofChange termOwnWrong)

/-- 'amanuensislaw09.SignJoins': WHATEVER THE INPUT: true; the input reads as it did. -/
def signJoinsSpec : ChangeSpec := { name := "signJoins", fn := fun _ => fun
  | [d1, d2] => { results := [.lit (.bool true)], args := [d1, d2] }
  | _ => none }
def signJoinsRow : OpenClaim := { program := "ytfelfahgeannaaa", sum := "a55e5404b253db76b86cb33a55886178ff8573714f51bae08b281dca86b49bb0", func := "amanuensis/amanuensislaw09.SignJoins", spec := "signJoins", unfollowed := true, recurses := true, loops := true, apart := false }
def SignJoinsSaid : Prop := signJoinsRow.holds Try.pinned (OpenSpec.ofChange signJoinsSpec)

/-- ITS FALSE NEIGHBOUR: 'it returns false'. Refute it at one input. -/
def signJoinsWrong : ChangeSpec := { name := "signJoins", fn := fun _ => fun
  | [d1, d2] => { results := [.lit (.bool false)], args := [d1, d2] }
  | _ => none }
def SignJoinsWrongFalsely : Prop := signJoinsRow.holds Try.pinned (OpenSpec.ofChange signJoinsWrong)

/- THE SECOND FORM. 'bulk': how many values and letters a reading holds, each counted each time it is reached (what is shared counts as often as it is met; a slice's spare places count too). A statement '..UptoSaid' is the law's where the arguments, and the package variables that the reading takes, are together of bulk at most 1048576: NARROWER than '..Said'. Prove '..Said' where nothing that the law and all that it calls make is longer than what came in: it says more and counts as full. Else prove '..UptoSaid'. A law counts once. -/
mutual
def uptoBulk {H : Type} : DataW H → Nat
  | .lit (.string bytes) => bytes.length + 1
  | .lit _ => 1
  | .nil => 1
  | .ptr d => uptoBulk d + 1
  | .slice elems spare => uptoBulkAll elems + uptoBulkAll spare + 1
  | .agg parts => uptoBulkAll parts + 1
  | .iface _ d => uptoBulk d + 1
  | .map entries => uptoBulkEntries entries + 1
  | .held _ => 1
def uptoBulkAll {H : Type} : List (DataW H) → Nat
  | [] => 0
  | d :: r => uptoBulk d + uptoBulkAll r
def uptoBulkEntries {H : Type} : List (Lit × DataW H) → Nat
  | [] => 0
  | x :: r => uptoBulkEntry x + uptoBulkEntries r
def uptoBulkEntry {H : Type} : Lit × DataW H → Nat
  | (.string bytes, d) => bytes.length + uptoBulk d + 1
  | (_, d) => uptoBulk d + 1
 end
def uptoSmall : (H : Type) → List (DataW H) → Bool := fun _ ds => decide (uptoBulkAll ds ≤ 1048576)
def OpenSpec.upto (s : _root_.Go.ChangeSpec) : _root_.Go.OpenSpec := { _root_.Go.OpenSpec.ofChange s with cond := some uptoSmall }

/-- 'amanuensislaw09.SignTells', WHERE WHAT IT READS IS OF BULK AT MOST 1048576: true; the input reads as it did. -/
def signTellsUptoRow : OpenClaim := { program := "ytfelfahgeannaaa", sum := "a55e5404b253db76b86cb33a55886178ff8573714f51bae08b281dca86b49bb0", func := "amanuensis/amanuensislaw09.SignTells", spec := "signTells", unfollowed := true, recurses := true, loops := true, apart := false, narrowed := true }
def SignTellsUptoSaid : Prop := signTellsUptoRow.holds Try.pinned (OpenSpec.upto signTellsSpec)

/-- 'amanuensislaw09.SignOnce', WHERE WHAT IT READS IS OF BULK AT MOST 1048576: true; the input reads as it did. -/
def signOnceUptoRow : OpenClaim := { program := "ytfelfahgeannaaa", sum := "a55e5404b253db76b86cb33a55886178ff8573714f51bae08b281dca86b49bb0", func := "amanuensis/amanuensislaw09.SignOnce", spec := "signOnce", unfollowed := true, recurses := true, loops := true, apart := false, narrowed := true }
def SignOnceUptoSaid : Prop := signOnceUptoRow.holds Try.pinned (OpenSpec.upto signOnceSpec)

/-- 'amanuensislaw09.SignMore', WHERE WHAT IT READS IS OF BULK AT MOST 1048576: true; the input reads as it did. -/
def signMoreUptoRow : OpenClaim := { program := "ytfelfahgeannaaa", sum := "a55e5404b253db76b86cb33a55886178ff8573714f51bae08b281dca86b49bb0", func := "amanuensis/amanuensislaw09.SignMore", spec := "signMore", unfollowed := true, recurses := true, loops := true, apart := false, narrowed := true }
def SignMoreUptoSaid : Prop := signMoreUptoRow.holds Try.pinned (OpenSpec.upto signMoreSpec)

/-- 'amanuensislaw01.TermTells', WHERE WHAT IT READS IS OF BULK AT MOST 1048576: true; the input reads as it did. -/
def termTellsUptoRow : OpenClaim := { program := "ytfelfahgeannaaa", sum := "a55e5404b253db76b86cb33a55886178ff8573714f51bae08b281dca86b49bb0", func := "amanuensis/amanuensislaw01.TermTells", spec := "termTells", unfollowed := true, recurses := true, loops := true, apart := false, narrowed := true }
def TermTellsUptoSaid : Prop := termTellsUptoRow.holds Try.pinned (OpenSpec.upto termTellsSpec)

/-- 'amanuensislaw01.TermScopes', WHERE WHAT IT READS IS OF BULK AT MOST 1048576: true; the input reads as it did. -/
def termScopesUptoRow : OpenClaim := { program := "ytfelfahgeannaaa", sum := "a55e5404b253db76b86cb33a55886178ff8573714f51bae08b281dca86b49bb0", func := "amanuensis/amanuensislaw01.TermScopes", spec := "termScopes", unfollowed := true, recurses := true, loops := true, apart := false, narrowed := true }
def TermScopesUptoSaid : Prop := termScopesUptoRow.holds Try.pinned (OpenSpec.upto termScopesSpec)

/-- 'amanuensislaw01.TermCounts', WHERE WHAT IT READS IS OF BULK AT MOST 1048576: true; the input reads as it did. -/
def termCountsUptoRow : OpenClaim := { program := "ytfelfahgeannaaa", sum := "a55e5404b253db76b86cb33a55886178ff8573714f51bae08b281dca86b49bb0", func := "amanuensis/amanuensislaw01.TermCounts", spec := "termCounts", unfollowed := true, recurses := true, loops := true, apart := false, narrowed := true }
def TermCountsUptoSaid : Prop := termCountsUptoRow.holds Try.pinned (OpenSpec.upto termCountsSpec)

/-- 'amanuensislaw01.TermParts', WHERE WHAT IT READS IS OF BULK AT MOST 1048576: true; the input reads as it did. -/
def termPartsUptoRow : OpenClaim := { program := "ytfelfahgeannaaa", sum := "a55e5404b253db76b86cb33a55886178ff8573714f51bae08b281dca86b49bb0", func := "amanuensis/amanuensislaw01.TermParts", spec := "termParts", unfollowed := true, recurses := true, loops := true, apart := false, narrowed := true }
def TermPartsUptoSaid : Prop := termPartsUptoRow.holds Try.pinned (OpenSpec.upto termPartsSpec)

/-- 'amanuensislaw09.SignPis', WHERE WHAT IT READS IS OF BULK AT MOST 1048576: true; the input reads as it did. -/
def signPisUptoRow : OpenClaim := { program := "ytfelfahgeannaaa", sum := "a55e5404b253db76b86cb33a55886178ff8573714f51bae08b281dca86b49bb0", func := "amanuensis/amanuensislaw09.SignPis", spec := "signPis", unfollowed := true, recurses := true, loops := true, apart := false, narrowed := true }
def SignPisUptoSaid : Prop := signPisUptoRow.holds Try.pinned (OpenSpec.upto signPisSpec)

/-- 'amanuensislaw01.TermSame', WHERE WHAT IT READS IS OF BULK AT MOST 1048576: true; the input reads as it did. -/
def termSameUptoRow : OpenClaim := { program := "ytfelfahgeannaaa", sum := "a55e5404b253db76b86cb33a55886178ff8573714f51bae08b281dca86b49bb0", func := "amanuensis/amanuensislaw01.TermSame", spec := "termSame", unfollowed := true, recurses := true, loops := true, apart := false, narrowed := true }
def TermSameUptoSaid : Prop := termSameUptoRow.holds Try.pinned (OpenSpec.upto termSameSpec)

/-- 'amanuensislaw01.TermOwn', WHERE WHAT IT READS IS OF BULK AT MOST 1048576: true; the input reads as it did. -/
def termOwnUptoRow : OpenClaim := { program := "ytfelfahgeannaaa", sum := "a55e5404b253db76b86cb33a55886178ff8573714f51bae08b281dca86b49bb0", func := "amanuensis/amanuensislaw01.TermOwn", spec := "termOwn", unfollowed := true, recurses := true, loops := true, apart := false, narrowed := true }
def TermOwnUptoSaid : Prop := termOwnUptoRow.holds Try.pinned (OpenSpec.upto termOwnSpec)

/-- 'amanuensislaw09.SignJoins', WHERE WHAT IT READS IS OF BULK AT MOST 1048576: true; the input reads as it did. -/
def signJoinsUptoRow : OpenClaim := { program := "ytfelfahgeannaaa", sum := "a55e5404b253db76b86cb33a55886178ff8573714f51bae08b281dca86b49bb0", func := "amanuensis/amanuensislaw09.SignJoins", spec := "signJoins", unfollowed := true, recurses := true, loops := true, apart := false, narrowed := true }
def SignJoinsUptoSaid : Prop := signJoinsUptoRow.holds Try.pinned (OpenSpec.upto signJoinsSpec)

end Rows
end Go.Proofs.Ytfelfahgeannaaa
