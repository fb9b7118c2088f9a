/-
  No cell of these rows narrows 'for every input' (looked for: loops, veiled, ifaces, maps, wideKeys, modest, calm, conditions, laid).
  DERIVED. THE GIVEN ROWS OF THIS SEAT. 3 by the template 'for every input the law returns true; each argument reads behind the call as it read before'; 0 by the template 'total and deterministic' (their statements: YtbnahidopemkiaaGreatTotals.lean).
  GIVEN WITH THE SEED: the statements are not yours to turn. If you find one false, say at which input.
  Laid BY PROGRAM, IN A SANDBOX (cutbox-rows.mjs): the forced cells as the released guide's own fill.sh prints them over the translation f406120284ac9b9f… (all of the seat's roots in one cut). By AI agents, Wed Nov 11 2026. No macro, syntax, notation, axiom, sorry.
-/
import Derived.Test.YtbnahidopemkiaaGreatChecked
import GoSem.Claim
import GoSem.ClaimJoined
import GoSem.ClaimMapViews
import Derived.JoinedTies
import Derived.KernelRfl
namespace Go.Proofs.YtbnahidopemkiaaGreat
/- THE CELL 'sum', in the pinned program and in every row, IS THE sha256 OF THE DUMP (.gsa) THAT YtbnahidopemkiaaGreatProg.lean LOADS. Nothing in Lean hashes anything: it is a label: what it is worth is what the hold of that sum in a sandbox is worth. -/
noncomputable def Tryz.pinned : Pinned := { name := "ytbnahidopemkiaagreat", sum := "f406120284ac9b9f33aaebb9b7269b309329470ee8eb186bad4b93f7ed31d73f", checked := Tryz.checked }
namespace Rows
def none {H : Type} : Left H := { results := [], args := [] }

/-- 'dormouselaw15.ClosureOrders': WHATEVER THE INPUT: true; the input reads as it did. -/
def closureOrdersSpec : ChangeSpec := { name := "closureOrders", fn := fun _ => fun
  | [d1, d2] => { results := [.lit (.bool true)], args := [d1, d2] }
  | _ => none }
def closureOrdersRow : OpenClaim := { program := "ytbnahidopemkiaagreat", sum := "f406120284ac9b9f33aaebb9b7269b309329470ee8eb186bad4b93f7ed31d73f", func := "dormouse/dormouselaw15.ClosureOrders", spec := "closureOrders", unfollowed := true, recurses := true, apart := false }
def ClosureOrdersSaid : Prop := closureOrdersRow.holds Tryz.pinned (OpenSpec.ofChange closureOrdersSpec)

/-- ITS FALSE NEIGHBOUR: 'it returns false'. Refute it at one input. -/
def closureOrdersWrong : ChangeSpec := { name := "closureOrders", fn := fun _ => fun
  | [d1, d2] => { results := [.lit (.bool false)], args := [d1, d2] }
  | _ => none }
def ClosureOrdersWrongFalsely : Prop := closureOrdersRow.holds Tryz.pinned (OpenSpec.ofChange closureOrdersWrong)

/-- 'dormouselaw15.ClosureGraphs': WHATEVER THE INPUT: true; the input reads as it did. -/
def closureGraphsSpec : ChangeSpec := { name := "closureGraphs", fn := fun _ => fun
  | [d1, d2] => { results := [.lit (.bool true)], args := [d1, d2] }
  | _ => none }
def closureGraphsRow : OpenClaim := { program := "ytbnahidopemkiaagreat", sum := "f406120284ac9b9f33aaebb9b7269b309329470ee8eb186bad4b93f7ed31d73f", func := "dormouse/dormouselaw15.ClosureGraphs", spec := "closureGraphs", unfollowed := true, recurses := true, apart := false }
def ClosureGraphsSaid : Prop := closureGraphsRow.holds Tryz.pinned (OpenSpec.ofChange closureGraphsSpec)

/-- ITS FALSE NEIGHBOUR: 'it returns false'. Refute it at one input. -/
def closureGraphsWrong : ChangeSpec := { name := "closureGraphs", fn := fun _ => fun
  | [d1, d2] => { results := [.lit (.bool false)], args := [d1, d2] }
  | _ => none }
def ClosureGraphsWrongFalsely : Prop := closureGraphsRow.holds Tryz.pinned (OpenSpec.ofChange closureGraphsWrong)

/-- 'dormouselaw17.RelocResolves': WHATEVER THE INPUT: true; the input reads as it did. -/
def relocResolvesSpec : ChangeSpec := { name := "relocResolves", fn := fun _ => fun
  | [d1, d2] => { results := [.lit (.bool true)], args := [d1, d2] }
  | _ => none }
def relocResolvesRow : OpenClaim := { program := "ytbnahidopemkiaagreat", sum := "f406120284ac9b9f33aaebb9b7269b309329470ee8eb186bad4b93f7ed31d73f", func := "dormouse/dormouselaw17.RelocResolves", spec := "relocResolves", unfollowed := true, recurses := true, apart := false }
def RelocResolvesSaid : Prop := relocResolvesRow.holds Tryz.pinned (OpenSpec.ofChange relocResolvesSpec)

/-- ITS FALSE NEIGHBOUR: 'it returns false'. Refute it at one input. -/
def relocResolvesWrong : ChangeSpec := { name := "relocResolves", fn := fun _ => fun
  | [d1, d2] => { results := [.lit (.bool false)], args := [d1, d2] }
  | _ => none }
def RelocResolvesWrongFalsely : Prop := relocResolvesRow.holds Tryz.pinned (OpenSpec.ofChange relocResolvesWrong)

/- THE SECOND FORM. 'bulk': how many values and letters a reading holds, each counted each time it is reached (what is shared counts as often as it is met; a slice's spare places count too). A statement '..UptoSaid' is the law's where the arguments, and the package variables that the reading takes, are together of bulk at most 1048576: NARROWER than '..Said'. Prove '..Said' where nothing that the law and all that it calls make is longer than what came in: it says more and counts as full. Else prove '..UptoSaid'. A law counts once. -/
mutual
def uptoBulk {H : Type} : DataW H → Nat
  | .lit (.string bytes) => bytes.length + 1
  | .lit _ => 1
  | .nil => 1
  | .ptr d => uptoBulk d + 1
  | .slice elems spare => uptoBulkAll elems + uptoBulkAll spare + 1
  | .agg parts => uptoBulkAll parts + 1
  | .iface _ d => uptoBulk d + 1
  | .map entries => uptoBulkEntries entries + 1
  | .held _ => 1
def uptoBulkAll {H : Type} : List (DataW H) → Nat
  | [] => 0
  | d :: r => uptoBulk d + uptoBulkAll r
def uptoBulkEntries {H : Type} : List (Lit × DataW H) → Nat
  | [] => 0
  | x :: r => uptoBulkEntry x + uptoBulkEntries r
def uptoBulkEntry {H : Type} : Lit × DataW H → Nat
  | (.string bytes, d) => bytes.length + uptoBulk d + 1
  | (_, d) => uptoBulk d + 1
 end
def uptoSmall : (H : Type) → List (DataW H) → Bool := fun _ ds => decide (uptoBulkAll ds ≤ 1048576)
def OpenSpec.upto (s : _root_.Go.ChangeSpec) : _root_.Go.OpenSpec := { _root_.Go.OpenSpec.ofChange s with cond := some uptoSmall }

/-- 'dormouselaw15.ClosureOrders', WHERE WHAT IT READS IS OF BULK AT MOST 1048576: true; the input reads as it did. -/
def closureOrdersUptoRow : OpenClaim := { program := "ytbnahidopemkiaagreat", sum := "f406120284ac9b9f33aaebb9b7269b309329470ee8eb186bad4b93f7ed31d73f", func := "dormouse/dormouselaw15.ClosureOrders", spec := "closureOrders", unfollowed := true, recurses := true, apart := false, narrowed := true }
def ClosureOrdersUptoSaid : Prop := closureOrdersUptoRow.holds Tryz.pinned (OpenSpec.upto closureOrdersSpec)

/-- 'dormouselaw15.ClosureGraphs', WHERE WHAT IT READS IS OF BULK AT MOST 1048576: true; the input reads as it did. -/
def closureGraphsUptoRow : OpenClaim := { program := "ytbnahidopemkiaagreat", sum := "f406120284ac9b9f33aaebb9b7269b309329470ee8eb186bad4b93f7ed31d73f", func := "dormouse/dormouselaw15.ClosureGraphs", spec := "closureGraphs", unfollowed := true, recurses := true, apart := false, narrowed := true }
def ClosureGraphsUptoSaid : Prop := closureGraphsUptoRow.holds Tryz.pinned (OpenSpec.upto closureGraphsSpec)

/-- 'dormouselaw17.RelocResolves', WHERE WHAT IT READS IS OF BULK AT MOST 1048576: true; the input reads as it did. -/
def relocResolvesUptoRow : OpenClaim := { program := "ytbnahidopemkiaagreat", sum := "f406120284ac9b9f33aaebb9b7269b309329470ee8eb186bad4b93f7ed31d73f", func := "dormouse/dormouselaw17.RelocResolves", spec := "relocResolves", unfollowed := true, recurses := true, apart := false, narrowed := true }
def RelocResolvesUptoSaid : Prop := relocResolvesUptoRow.holds Tryz.pinned (OpenSpec.upto relocResolvesSpec)

end Rows
end Go.Proofs.YtbnahidopemkiaaGreat
