/-
  No cell of these rows narrows 'for every input' (looked for: loops, veiled, ifaces, maps, wideKeys, modest, calm, conditions, laid).
  DERIVED. THE GIVEN ROWS OF THIS SEAT. 7 by the template 'for every input the law returns true; each argument reads behind the call as it read before'; 0 by the template 'total and deterministic' (their statements: YtbnahidopemkiaaTotals.lean).
  GIVEN WITH THE SEED: the statements are not yours to turn. If you find one false, say at which input.
  Laid BY PROGRAM, IN A SANDBOX (cutbox-rows.mjs): the forced cells as the released guide's own fill.sh prints them over the translation 482a56a307eed3b0… (all of the seat's roots in one cut). By AI agents, Wed Nov 11 2026. No macro, syntax, notation, axiom, sorry.
-/
import Derived.Test.YtbnahidopemkiaaChecked
import GoSem.Claim
import GoSem.ClaimJoined
import GoSem.ClaimMapViews
import Derived.JoinedTies
import Derived.KernelRfl
namespace Go.Proofs.Ytbnahidopemkiaa
/- THE CELL 'sum', in the pinned program and in every row, IS THE sha256 OF THE DUMP (.gsa) THAT YtbnahidopemkiaaProg.lean LOADS. Nothing in Lean hashes anything: it is a label: what it is worth is what the hold of that sum in a sandbox is worth. -/
noncomputable def Try.pinned : Pinned := { name := "ytbnahidopemkiaa", sum := "482a56a307eed3b058bba277646ee0ff7c5756ed2b7bc6628228ce9cebe8624d", checked := Try.checked }
namespace Rows
def none {H : Type} : Left H := { results := [], args := [] }

/-- 'dormouselaw15.ClosureWhole': WHATEVER THE INPUT: true; the input reads as it did. -/
def closureWholeSpec : ChangeSpec := { name := "closureWhole", fn := fun _ => fun
  | [d] => { results := [.lit (.bool true)], args := [d] }
  | _ => none }
def closureWholeRow : OpenClaim := { program := "ytbnahidopemkiaa", sum := "482a56a307eed3b058bba277646ee0ff7c5756ed2b7bc6628228ce9cebe8624d", func := "dormouse/dormouselaw15.ClosureWhole", spec := "closureWhole", unfollowed := true, recurses := true, apart := false }
def ClosureWholeSaid : Prop := closureWholeRow.holds Try.pinned (OpenSpec.ofChange closureWholeSpec)

/-- ITS FALSE NEIGHBOUR: 'it returns false'. Refute it at one input. -/
def closureWholeWrong : ChangeSpec := { name := "closureWhole", fn := fun _ => fun
  | [d] => { results := [.lit (.bool false)], args := [d] }
  | _ => none }
def ClosureWholeWrongFalsely : Prop := closureWholeRow.holds Try.pinned (OpenSpec.ofChange closureWholeWrong)

/-- 'dormouselaw15.ClosureFirst': WHATEVER THE INPUT: true; the input reads as it did. -/
def closureFirstSpec : ChangeSpec := { name := "closureFirst", fn := fun _ => fun
  | [d1, d2] => { results := [.lit (.bool true)], args := [d1, d2] }
  | _ => none }
def closureFirstRow : OpenClaim := { program := "ytbnahidopemkiaa", sum := "482a56a307eed3b058bba277646ee0ff7c5756ed2b7bc6628228ce9cebe8624d", func := "dormouse/dormouselaw15.ClosureFirst", spec := "closureFirst", unfollowed := true, recurses := true, apart := false }
def ClosureFirstSaid : Prop := closureFirstRow.holds Try.pinned (OpenSpec.ofChange closureFirstSpec)

/-- ITS FALSE NEIGHBOUR: 'it returns false'. Refute it at one input. -/
def closureFirstWrong : ChangeSpec := { name := "closureFirst", fn := fun _ => fun
  | [d1, d2] => { results := [.lit (.bool false)], args := [d1, d2] }
  | _ => none }
def ClosureFirstWrongFalsely : Prop := closureFirstRow.holds Try.pinned (OpenSpec.ofChange closureFirstWrong)

/-- 'dormouselaw16.LayoutApart': WHATEVER THE INPUT: true; the input reads as it did. -/
def layoutApartSpec : ChangeSpec := { name := "layoutApart", fn := fun _ => fun
  | [d1, d2, d3, d4] => { results := [.lit (.bool true)], args := [d1, d2, d3, d4] }
  | _ => none }
def layoutApartRow : OpenClaim := { program := "ytbnahidopemkiaa", sum := "482a56a307eed3b058bba277646ee0ff7c5756ed2b7bc6628228ce9cebe8624d", func := "dormouse/dormouselaw16.LayoutApart", spec := "layoutApart", unfollowed := true, recurses := true, apart := false }
def LayoutApartSaid : Prop := layoutApartRow.holds Try.pinned (OpenSpec.ofChange layoutApartSpec)

/-- ITS FALSE NEIGHBOUR: 'it returns false'. Refute it at one input. -/
def layoutApartWrong : ChangeSpec := { name := "layoutApart", fn := fun _ => fun
  | [d1, d2, d3, d4] => { results := [.lit (.bool false)], args := [d1, d2, d3, d4] }
  | _ => none }
def LayoutApartWrongFalsely : Prop := layoutApartRow.holds Try.pinned (OpenSpec.ofChange layoutApartWrong)

/-- 'dormouselaw16.LayoutBlocks': WHATEVER THE INPUT: true; the input reads as it did. -/
def layoutBlocksSpec : ChangeSpec := { name := "layoutBlocks", fn := fun _ => fun
  | [d1, d2] => { results := [.lit (.bool true)], args := [d1, d2] }
  | _ => none }
def layoutBlocksRow : OpenClaim := { program := "ytbnahidopemkiaa", sum := "482a56a307eed3b058bba277646ee0ff7c5756ed2b7bc6628228ce9cebe8624d", func := "dormouse/dormouselaw16.LayoutBlocks", spec := "layoutBlocks", unfollowed := true, recurses := true, apart := false }
def LayoutBlocksSaid : Prop := layoutBlocksRow.holds Try.pinned (OpenSpec.ofChange layoutBlocksSpec)

/-- ITS FALSE NEIGHBOUR: 'it returns false'. Refute it at one input. -/
def layoutBlocksWrong : ChangeSpec := { name := "layoutBlocks", fn := fun _ => fun
  | [d1, d2] => { results := [.lit (.bool false)], args := [d1, d2] }
  | _ => none }
def LayoutBlocksWrongFalsely : Prop := layoutBlocksRow.holds Try.pinned (OpenSpec.ofChange layoutBlocksWrong)

/-- 'dormouselaw16.LayoutTls': WHATEVER THE INPUT: true; the input reads as it did. -/
def layoutTlsSpec : ChangeSpec := { name := "layoutTls", fn := fun _ => fun
  | [d1, d2] => { results := [.lit (.bool true)], args := [d1, d2] }
  | _ => none }
def layoutTlsRow : OpenClaim := { program := "ytbnahidopemkiaa", sum := "482a56a307eed3b058bba277646ee0ff7c5756ed2b7bc6628228ce9cebe8624d", func := "dormouse/dormouselaw16.LayoutTls", spec := "layoutTls", unfollowed := true, recurses := true, apart := false }
def LayoutTlsSaid : Prop := layoutTlsRow.holds Try.pinned (OpenSpec.ofChange layoutTlsSpec)

/-- ITS FALSE NEIGHBOUR: 'it returns false'. Refute it at one input. -/
def layoutTlsWrong : ChangeSpec := { name := "layoutTls", fn := fun _ => fun
  | [d1, d2] => { results := [.lit (.bool false)], args := [d1, d2] }
  | _ => none }
def LayoutTlsWrongFalsely : Prop := layoutTlsRow.holds Try.pinned (OpenSpec.ofChange layoutTlsWrong)

/-- 'dormouselaw17.RelocMoves': WHATEVER THE INPUT: true; the input reads as it did. -/
def relocMovesSpec : ChangeSpec := { name := "relocMoves", fn := fun _ => fun
  | [d1, d2] => { results := [.lit (.bool true)], args := [d1, d2] }
  | _ => none }
def relocMovesRow : OpenClaim := { program := "ytbnahidopemkiaa", sum := "482a56a307eed3b058bba277646ee0ff7c5756ed2b7bc6628228ce9cebe8624d", func := "dormouse/dormouselaw17.RelocMoves", spec := "relocMoves", unfollowed := true, recurses := true, apart := false }
def RelocMovesSaid : Prop := relocMovesRow.holds Try.pinned (OpenSpec.ofChange relocMovesSpec)

/-- ITS FALSE NEIGHBOUR: 'it returns false'. Refute it at one input. -/
def relocMovesWrong : ChangeSpec := { name := "relocMoves", fn := fun _ => fun
  | [d1, d2] => { results := [.lit (.bool false)], args := [d1, d2] }
  | _ => none }
def RelocMovesWrongFalsely : Prop := relocMovesRow.holds Try.pinned (OpenSpec.ofChange relocMovesWrong)

/-- 'dormouselaw17.RelocFirst': WHATEVER THE INPUT: true; the input reads as it did. -/
def relocFirstSpec : ChangeSpec := { name := "relocFirst", fn := fun _ => fun
  | [d1, d2, d3, d4] => { results := [.lit (.bool true)], args := [d1, d2, d3, d4] }
  | _ => none }
def relocFirstRow : OpenClaim := { program := "ytbnahidopemkiaa", sum := "482a56a307eed3b058bba277646ee0ff7c5756ed2b7bc6628228ce9cebe8624d", func := "dormouse/dormouselaw17.RelocFirst", spec := "relocFirst", unfollowed := true, recurses := true, apart := false }
def RelocFirstSaid : Prop := relocFirstRow.holds Try.pinned (OpenSpec.ofChange relocFirstSpec)

/-- ITS FALSE NEIGHBOUR: 'it returns false'. Refute it at one input. -/
def relocFirstWrong : ChangeSpec := { name := "relocFirst", fn := fun _ => fun
  | [d1, d2, d3, d4] => { results := [.lit (.bool false)], args := [d1, d2, d3, d4] }
  | _ => none }
def RelocFirstWrongFalsely : Prop := relocFirstRow.holds Try.pinned (OpenSpec.ofChange relocFirstWrong)

/- THE SECOND FORM. 'bulk': how many values and letters a reading holds, each counted each time it is reached (what is shared counts as often as it is met; a slice's spare places count too). A statement '..UptoSaid' is the law's where the arguments, and the package variables that the reading takes, are together of bulk at most 1048576: NARROWER than '..Said'. Prove '..Said' where nothing that the law and all that it calls make is longer than what came in: it says more and counts as full. Else prove '..UptoSaid'. A law counts once. -/
mutual
def uptoBulk {H : Type} : DataW H → Nat
  | .lit (.string bytes) => bytes.length + 1
  | .lit _ => 1
  | .nil => 1
  | .ptr d => uptoBulk d + 1
  | .slice elems spare => uptoBulkAll elems + uptoBulkAll spare + 1
  | .agg parts => uptoBulkAll parts + 1
  | .iface _ d => uptoBulk d + 1
  | .map entries => uptoBulkEntries entries + 1
  | .held _ => 1
def uptoBulkAll {H : Type} : List (DataW H) → Nat
  | [] => 0
  | d :: r => uptoBulk d + uptoBulkAll r
def uptoBulkEntries {H : Type} : List (Lit × DataW H) → Nat
  | [] => 0
  | x :: r => uptoBulkEntry x + uptoBulkEntries r
def uptoBulkEntry {H : Type} : Lit × DataW H → Nat
  | (.string bytes, d) => bytes.length + uptoBulk d + 1
  | (_, d) => uptoBulk d + 1
 end
def uptoSmall : (H : Type) → List (DataW H) → Bool := fun _ ds => decide (uptoBulkAll ds ≤ 1048576)
def OpenSpec.upto (s : _root_.Go.ChangeSpec) : _root_.Go.OpenSpec := { _root_.Go.OpenSpec.ofChange s with cond := some uptoSmall }

/-- 'dormouselaw15.ClosureWhole', WHERE WHAT IT READS IS OF BULK AT MOST 1048576: true; the input reads as it did. -/
def closureWholeUptoRow : OpenClaim := { program := "ytbnahidopemkiaa", sum := "482a56a307eed3b058bba277646ee0ff7c5756ed2b7bc6628228ce9cebe8624d", func := "dormouse/dormouselaw15.ClosureWhole", spec := "closureWhole", unfollowed := true, recurses := true, apart := false, narrowed := true }
def ClosureWholeUptoSaid : Prop := closureWholeUptoRow.holds Try.pinned (OpenSpec.upto closureWholeSpec)

/-- 'dormouselaw15.ClosureFirst', WHERE WHAT IT READS IS OF BULK AT MOST 1048576: true; the input reads as it did. -/
def closureFirstUptoRow : OpenClaim := { program := "ytbnahidopemkiaa", sum := "482a56a307eed3b058bba277646ee0ff7c5756ed2b7bc6628228ce9cebe8624d", func := "dormouse/dormouselaw15.ClosureFirst", spec := "closureFirst", unfollowed := true, recurses := true, apart := false, narrowed := true }
def ClosureFirstUptoSaid : Prop := closureFirstUptoRow.holds Try.pinned (OpenSpec.upto closureFirstSpec)

/-- 'dormouselaw16.LayoutApart', WHERE WHAT IT READS IS OF BULK AT MOST 1048576: true; the input reads as it did. -/
def layoutApartUptoRow : OpenClaim := { program := "ytbnahidopemkiaa", sum := "482a56a307eed3b058bba277646ee0ff7c5756ed2b7bc6628228ce9cebe8624d", func := "dormouse/dormouselaw16.LayoutApart", spec := "layoutApart", unfollowed := true, recurses := true, apart := false, narrowed := true }
def LayoutApartUptoSaid : Prop := layoutApartUptoRow.holds Try.pinned (OpenSpec.upto layoutApartSpec)

/-- 'dormouselaw16.LayoutBlocks', WHERE WHAT IT READS IS OF BULK AT MOST 1048576: true; the input reads as it did. -/
def layoutBlocksUptoRow : OpenClaim := { program := "ytbnahidopemkiaa", sum := "482a56a307eed3b058bba277646ee0ff7c5756ed2b7bc6628228ce9cebe8624d", func := "dormouse/dormouselaw16.LayoutBlocks", spec := "layoutBlocks", unfollowed := true, recurses := true, apart := false, narrowed := true }
def LayoutBlocksUptoSaid : Prop := layoutBlocksUptoRow.holds Try.pinned (OpenSpec.upto layoutBlocksSpec)

/-- 'dormouselaw16.LayoutTls', WHERE WHAT IT READS IS OF BULK AT MOST 1048576: true; the input reads as it did. -/
def layoutTlsUptoRow : OpenClaim := { program := "ytbnahidopemkiaa", sum := "482a56a307eed3b058bba277646ee0ff7c5756ed2b7bc6628228ce9cebe8624d", func := "dormouse/dormouselaw16.LayoutTls", spec := "layoutTls", unfollowed := true, recurses := true, apart := false, narrowed := true }
def LayoutTlsUptoSaid : Prop := layoutTlsUptoRow.holds Try.pinned (OpenSpec.upto layoutTlsSpec)

/-- 'dormouselaw17.RelocMoves', WHERE WHAT IT READS IS OF BULK AT MOST 1048576: true; the input reads as it did. -/
def relocMovesUptoRow : OpenClaim := { program := "ytbnahidopemkiaa", sum := "482a56a307eed3b058bba277646ee0ff7c5756ed2b7bc6628228ce9cebe8624d", func := "dormouse/dormouselaw17.RelocMoves", spec := "relocMoves", unfollowed := true, recurses := true, apart := false, narrowed := true }
def RelocMovesUptoSaid : Prop := relocMovesUptoRow.holds Try.pinned (OpenSpec.upto relocMovesSpec)

/-- 'dormouselaw17.RelocFirst', WHERE WHAT IT READS IS OF BULK AT MOST 1048576: true; the input reads as it did. -/
def relocFirstUptoRow : OpenClaim := { program := "ytbnahidopemkiaa", sum := "482a56a307eed3b058bba277646ee0ff7c5756ed2b7bc6628228ce9cebe8624d", func := "dormouse/dormouselaw17.RelocFirst", spec := "relocFirst", unfollowed := true, recurses := true, apart := false, narrowed := true }
def RelocFirstUptoSaid : Prop := relocFirstUptoRow.holds Try.pinned (OpenSpec.upto relocFirstSpec)

end Rows
end Go.Proofs.Ytbnahidopemkiaa
