/-
  NARROWER THAN 'FOR EVERY INPUT', by the rows' own cells (each row's printed sentence says how): TagsNumbers: laid · TagsNone: laid · TagsSpans: laid.
  DERIVED. THE GIVEN ROWS OF THIS SEAT. 3 by the template 'for every input the law returns true; each argument reads behind the call as it read before'; 0 by the template 'total and deterministic' (their statements: YthfekjnekaecaaaDoorTotals.lean).
  GIVEN WITH THE SEED: the statements are not yours to turn. If you find one false, say at which input.
  Laid BY PROGRAM, IN A SANDBOX (cutbox-rows.mjs): the forced cells as the released guide's own fill.sh prints them over the translation 11a7a8ca2bb64584… (all of the seat's roots in one cut). By AI agents, Wed Nov 11 2026. No macro, syntax, notation, axiom, sorry.
-/
import Derived.Test.YthfekjnekaecaaaDoorChecked
import GoSem.Claim
import GoSem.ClaimJoined
import GoSem.ClaimMapViews
import Derived.JoinedTies
import Derived.KernelRfl
namespace Go.Proofs.YthfekjnekaecaaaDoor
/- THE CELL 'sum', in the pinned program and in every row, IS THE sha256 OF THE DUMP (.gsa) THAT YthfekjnekaecaaaDoorProg.lean LOADS. Nothing in Lean hashes anything: it is a label: what it is worth is what the hold of that sum in a sandbox is worth. -/
noncomputable def Tryd.pinned : Pinned := { name := "ythfekjnekaecaaadoor", sum := "11a7a8ca2bb6458439e8fa052e41613e1da106d587091bb271d8bb3256fbacbc", checked := Tryd.checked }
namespace Rows
def none {H : Type} : Left H := { results := [], args := [] }

/- WHAT THE LISTED PACKAGE-LEVEL VARIABLES READ AS WHEN THE CALL BEGINS. Each datum BY PROGRAM (the guide's laid-datum.mjs) off the statement by which the dump's own 'gosem.cut.vars' lays the variable. In a bare row this is a premise. The card (YthfekjnekaecaaaDoorCards.lean) ties it to the program's text. -/
def laid_dormouse_isa_ops {H : Type} : DataW H := .agg [.agg [.lit (.int .i64 1), .lit (.string [110, 111, 112]), .lit (.string [])], .agg [.lit (.int .i64 2), .lit (.string [109, 111, 118]), .lit (.string [97, 98])], .agg [.lit (.int .i64 3), .lit (.string [97, 100, 100]), .lit (.string [97, 98, 99])], .agg [.lit (.int .i64 4), .lit (.string [115, 117, 98]), .lit (.string [97, 98, 99])], .agg [.lit (.int .i64 5), .lit (.string [109, 117, 108]), .lit (.string [97, 98, 99])], .agg [.lit (.int .i64 6), .lit (.string [100, 105, 118]), .lit (.string [97, 98, 99])], .agg [.lit (.int .i64 7), .lit (.string [114, 101, 109]), .lit (.string [97, 98, 99])], .agg [.lit (.int .i64 8), .lit (.string [97, 110, 100]), .lit (.string [97, 98, 99])], .agg [.lit (.int .i64 9), .lit (.string [111, 114]), .lit (.string [97, 98, 99])], .agg [.lit (.int .i64 10), .lit (.string [120, 111, 114]), .lit (.string [97, 98, 99])], .agg [.lit (.int .i64 11), .lit (.string [115, 104, 108]), .lit (.string [97, 98, 99])], .agg [.lit (.int .i64 12), .lit (.string [115, 104, 114]), .lit (.string [97, 98, 99])], .agg [.lit (.int .i64 13), .lit (.string [115, 97, 114]), .lit (.string [97, 98, 99])], .agg [.lit (.int .i64 14), .lit (.string [115, 108, 116]), .lit (.string [97, 98, 99])], .agg [.lit (.int .i64 15), .lit (.string [115, 108, 116, 117]), .lit (.string [97, 98, 99])], .agg [.lit (.int .i64 16), .lit (.string [97, 100, 100, 105]), .lit (.string [97, 98, 105])], .agg [.lit (.int .i64 17), .lit (.string [109, 111, 118, 105]), .lit (.string [97, 105])], .agg [.lit (.int .i64 18), .lit (.string [109, 111, 118, 104, 105]), .lit (.string [97, 105])], .agg [.lit (.int .i64 20), .lit (.string [108, 100, 49]), .lit (.string [97, 98, 105])], .agg [.lit (.int .i64 21), .lit (.string [108, 100, 50]), .lit (.string [97, 98, 105])], .agg [.lit (.int .i64 22), .lit (.string [108, 100, 52]), .lit (.string [97, 98, 105])], .agg [.lit (.int .i64 23), .lit (.string [108, 100, 56]), .lit (.string [97, 98, 105])], .agg [.lit (.int .i64 24), .lit (.string [115, 116, 49]), .lit (.string [97, 98, 105])], .agg [.lit (.int .i64 25), .lit (.string [115, 116, 50]), .lit (.string [97, 98, 105])], .agg [.lit (.int .i64 26), .lit (.string [115, 116, 52]), .lit (.string [97, 98, 105])], .agg [.lit (.int .i64 27), .lit (.string [115, 116, 56]), .lit (.string [97, 98, 105])], .agg [.lit (.int .i64 30), .lit (.string [98, 101, 113]), .lit (.string [97, 98, 105])], .agg [.lit (.int .i64 31), .lit (.string [98, 110, 101]), .lit (.string [97, 98, 105])], .agg [.lit (.int .i64 32), .lit (.string [98, 108, 116]), .lit (.string [97, 98, 105])], .agg [.lit (.int .i64 33), .lit (.string [98, 108, 116, 117]), .lit (.string [97, 98, 105])], .agg [.lit (.int .i64 34), .lit (.string [106, 109, 112]), .lit (.string [105])], .agg [.lit (.int .i64 35), .lit (.string [99, 97, 108, 108]), .lit (.string [97, 105])], .agg [.lit (.int .i64 36), .lit (.string [106, 114]), .lit (.string [98])], .agg [.lit (.int .i64 37), .lit (.string [99, 97, 108, 108, 114]), .lit (.string [97, 98])], .agg [.lit (.int .i64 38), .lit (.string [108, 101, 97]), .lit (.string [97, 105])], .agg [.lit (.int .i64 39), .lit (.string [116, 108, 115]), .lit (.string [97, 105])], .agg [.lit (.int .i64 40), .lit (.string [115, 121, 115]), .lit (.string [])], .agg [.lit (.int .i64 41), .lit (.string [116, 114, 97, 112]), .lit (.string [105])]]

/-- 'dormouselaw18.TagsNumbers': WHATEVER THE INPUT: true; the input reads as it did. -/
def tagsNumbersSpec : ChangeSpec := { name := "tagsNumbers", fn := fun _ => fun
  | [d1, d2, d3, d4, d5, d6, d7] => { results := [.lit (.bool true)], args := [d1, d2, d3, d4, d5, d6, d7] }
  | _ => none }
def tagsNumbersRow : OpenClaim := { program := "ythfekjnekaecaaadoor", sum := "11a7a8ca2bb6458439e8fa052e41613e1da106d587091bb271d8bb3256fbacbc", func := "dormouse/dormouselaw18.TagsNumbers", spec := "tagsNumbers", inPlace := ["internal/bytealg.IndexByteString", "internal/bytealg.IndexString", "maps.clone"], unfollowed := true, recurses := true, named := ["dormouse/isa.ops", "internal/bytealg.MaxLen"], apart := false, laid := [("dormouse/isa.ops", laid_dormouse_isa_ops)] }
def TagsNumbersSaid : Prop := tagsNumbersRow.holds Tryd.pinned (OpenSpec.ofChange tagsNumbersSpec)

/-- ITS FALSE NEIGHBOUR: 'it returns false'. Refute it at one input. -/
def tagsNumbersWrong : ChangeSpec := { name := "tagsNumbers", fn := fun _ => fun
  | [d1, d2, d3, d4, d5, d6, d7] => { results := [.lit (.bool false)], args := [d1, d2, d3, d4, d5, d6, d7] }
  | _ => none }
def TagsNumbersWrongFalsely : Prop := tagsNumbersRow.holds Tryd.pinned (OpenSpec.ofChange tagsNumbersWrong)

/-- 'dormouselaw18.TagsNone': WHATEVER THE INPUT: true; the input reads as it did. -/
def tagsNoneSpec : ChangeSpec := { name := "tagsNone", fn := fun _ => fun
  | [d1, d2] => { results := [.lit (.bool true)], args := [d1, d2] }
  | _ => none }
def tagsNoneRow : OpenClaim := { program := "ythfekjnekaecaaadoor", sum := "11a7a8ca2bb6458439e8fa052e41613e1da106d587091bb271d8bb3256fbacbc", func := "dormouse/dormouselaw18.TagsNone", spec := "tagsNone", inPlace := ["internal/bytealg.IndexByteString", "internal/bytealg.IndexString", "maps.clone"], unfollowed := true, recurses := true, named := ["dormouse/isa.ops", "internal/bytealg.MaxLen"], apart := false, laid := [("dormouse/isa.ops", laid_dormouse_isa_ops)] }
def TagsNoneSaid : Prop := tagsNoneRow.holds Tryd.pinned (OpenSpec.ofChange tagsNoneSpec)

/-- ITS FALSE NEIGHBOUR: 'it returns false'. Refute it at one input. -/
def tagsNoneWrong : ChangeSpec := { name := "tagsNone", fn := fun _ => fun
  | [d1, d2] => { results := [.lit (.bool false)], args := [d1, d2] }
  | _ => none }
def TagsNoneWrongFalsely : Prop := tagsNoneRow.holds Tryd.pinned (OpenSpec.ofChange tagsNoneWrong)

/-- 'dormouselaw18.TagsSpans': WHATEVER THE INPUT: true; the input reads as it did. -/
def tagsSpansSpec : ChangeSpec := { name := "tagsSpans", fn := fun _ => fun
  | [d1, d2, d3, d4] => { results := [.lit (.bool true)], args := [d1, d2, d3, d4] }
  | _ => none }
def tagsSpansRow : OpenClaim := { program := "ythfekjnekaecaaadoor", sum := "11a7a8ca2bb6458439e8fa052e41613e1da106d587091bb271d8bb3256fbacbc", func := "dormouse/dormouselaw18.TagsSpans", spec := "tagsSpans", inPlace := ["internal/bytealg.IndexByteString", "internal/bytealg.IndexString", "maps.clone"], unfollowed := true, recurses := true, named := ["dormouse/isa.ops", "internal/bytealg.MaxLen"], apart := false, laid := [("dormouse/isa.ops", laid_dormouse_isa_ops)] }
def TagsSpansSaid : Prop := tagsSpansRow.holds Tryd.pinned (OpenSpec.ofChange tagsSpansSpec)

/-- ITS FALSE NEIGHBOUR: 'it returns false'. Refute it at one input. -/
def tagsSpansWrong : ChangeSpec := { name := "tagsSpans", fn := fun _ => fun
  | [d1, d2, d3, d4] => { results := [.lit (.bool false)], args := [d1, d2, d3, d4] }
  | _ => none }
def TagsSpansWrongFalsely : Prop := tagsSpansRow.holds Tryd.pinned (OpenSpec.ofChange tagsSpansWrong)

/- THE SECOND FORM. 'bulk': how many values and letters a reading holds, each counted each time it is reached (what is shared counts as often as it is met; a slice's spare places count too). A statement '..UptoSaid' is the law's where the arguments, and the package variables that the reading takes, are together of bulk at most 1048576: NARROWER than '..Said'. Prove '..Said' where nothing that the law and all that it calls make is longer than what came in: it says more and counts as full. Else prove '..UptoSaid'. A law counts once. -/
mutual
def uptoBulk {H : Type} : DataW H → Nat
  | .lit (.string bytes) => bytes.length + 1
  | .lit _ => 1
  | .nil => 1
  | .ptr d => uptoBulk d + 1
  | .slice elems spare => uptoBulkAll elems + uptoBulkAll spare + 1
  | .agg parts => uptoBulkAll parts + 1
  | .iface _ d => uptoBulk d + 1
  | .map entries => uptoBulkEntries entries + 1
  | .held _ => 1
def uptoBulkAll {H : Type} : List (DataW H) → Nat
  | [] => 0
  | d :: r => uptoBulk d + uptoBulkAll r
def uptoBulkEntries {H : Type} : List (Lit × DataW H) → Nat
  | [] => 0
  | x :: r => uptoBulkEntry x + uptoBulkEntries r
def uptoBulkEntry {H : Type} : Lit × DataW H → Nat
  | (.string bytes, d) => bytes.length + uptoBulk d + 1
  | (_, d) => uptoBulk d + 1
 end
def uptoSmall : (H : Type) → List (DataW H) → Bool := fun _ ds => decide (uptoBulkAll ds ≤ 1048576)
def OpenSpec.upto (s : _root_.Go.ChangeSpec) : _root_.Go.OpenSpec := { _root_.Go.OpenSpec.ofChange s with cond := some uptoSmall }

/-- 'dormouselaw18.TagsNumbers', WHERE WHAT IT READS IS OF BULK AT MOST 1048576: true; the input reads as it did. -/
def tagsNumbersUptoRow : OpenClaim := { program := "ythfekjnekaecaaadoor", sum := "11a7a8ca2bb6458439e8fa052e41613e1da106d587091bb271d8bb3256fbacbc", func := "dormouse/dormouselaw18.TagsNumbers", spec := "tagsNumbers", inPlace := ["internal/bytealg.IndexByteString", "internal/bytealg.IndexString", "maps.clone"], unfollowed := true, recurses := true, named := ["dormouse/isa.ops", "internal/bytealg.MaxLen"], apart := false, laid := [("dormouse/isa.ops", laid_dormouse_isa_ops)], narrowed := true }
def TagsNumbersUptoSaid : Prop := tagsNumbersUptoRow.holds Tryd.pinned (OpenSpec.upto tagsNumbersSpec)

/-- 'dormouselaw18.TagsNone', WHERE WHAT IT READS IS OF BULK AT MOST 1048576: true; the input reads as it did. -/
def tagsNoneUptoRow : OpenClaim := { program := "ythfekjnekaecaaadoor", sum := "11a7a8ca2bb6458439e8fa052e41613e1da106d587091bb271d8bb3256fbacbc", func := "dormouse/dormouselaw18.TagsNone", spec := "tagsNone", inPlace := ["internal/bytealg.IndexByteString", "internal/bytealg.IndexString", "maps.clone"], unfollowed := true, recurses := true, named := ["dormouse/isa.ops", "internal/bytealg.MaxLen"], apart := false, laid := [("dormouse/isa.ops", laid_dormouse_isa_ops)], narrowed := true }
def TagsNoneUptoSaid : Prop := tagsNoneUptoRow.holds Tryd.pinned (OpenSpec.upto tagsNoneSpec)

/-- 'dormouselaw18.TagsSpans', WHERE WHAT IT READS IS OF BULK AT MOST 1048576: true; the input reads as it did. -/
def tagsSpansUptoRow : OpenClaim := { program := "ythfekjnekaecaaadoor", sum := "11a7a8ca2bb6458439e8fa052e41613e1da106d587091bb271d8bb3256fbacbc", func := "dormouse/dormouselaw18.TagsSpans", spec := "tagsSpans", inPlace := ["internal/bytealg.IndexByteString", "internal/bytealg.IndexString", "maps.clone"], unfollowed := true, recurses := true, named := ["dormouse/isa.ops", "internal/bytealg.MaxLen"], apart := false, laid := [("dormouse/isa.ops", laid_dormouse_isa_ops)], narrowed := true }
def TagsSpansUptoSaid : Prop := tagsSpansUptoRow.holds Tryd.pinned (OpenSpec.upto tagsSpansSpec)

end Rows
end Go.Proofs.YthfekjnekaecaaaDoor
