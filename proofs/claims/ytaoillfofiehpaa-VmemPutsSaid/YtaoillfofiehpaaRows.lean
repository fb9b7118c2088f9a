/-
  No cell of these rows narrows 'for every input' (looked for: loops, veiled, ifaces, maps, wideKeys, modest, calm, conditions, laid).
  DERIVED. THE GIVEN ROWS OF THIS SEAT. 5 by the template 'for every input the law returns true; each argument reads behind the call as it read before'; 0 by the template 'total and deterministic' (their statements: YtaoillfofiehpaaTotals.lean).
  GIVEN WITH THE SEED: the statements are not yours to turn. If you find one false, say at which input.
  Laid BY PROGRAM, IN A SANDBOX (cutbox-rows.mjs): the forced cells as the released guide's own fill.sh prints them over the translation 26eafb723c8416c6… (all of the seat's roots in one cut). By AI agents, Wed Nov 11 2026. No macro, syntax, notation, axiom, sorry.
-/
import Derived.Test.YtaoillfofiehpaaChecked
import GoSem.Claim
import GoSem.ClaimJoined
import GoSem.ClaimMapViews
import Derived.JoinedTies
import Derived.KernelRfl
namespace Go.Proofs.Ytaoillfofiehpaa
/- THE CELL 'sum', in the pinned program and in every row, IS THE sha256 OF THE DUMP (.gsa) THAT YtaoillfofiehpaaProg.lean LOADS. Nothing in Lean hashes anything: it is a label: what it is worth is what the hold of that sum in a sandbox is worth. -/
noncomputable def Try.pinned : Pinned := { name := "ytaoillfofiehpaa", sum := "26eafb723c8416c6bc1935679cac26c655c71a9e97e68b26118e635e6c792e60", checked := Try.checked }
namespace Rows
def none {H : Type} : Left H := { results := [], args := [] }

/-- 'dormouselaw13.VmemPuts': WHATEVER THE INPUT: true; the input reads as it did. -/
def vmemPutsSpec : ChangeSpec := { name := "vmemPuts", fn := fun _ => fun
  | [d] => { results := [.lit (.bool true)], args := [d] }
  | _ => none }
def vmemPutsRow : OpenClaim := { program := "ytaoillfofiehpaa", sum := "26eafb723c8416c6bc1935679cac26c655c71a9e97e68b26118e635e6c792e60", func := "dormouse/dormouselaw13.VmemPuts", spec := "vmemPuts", unfollowed := true, recurses := true, apart := false }
def VmemPutsSaid : Prop := vmemPutsRow.holds Try.pinned (OpenSpec.ofChange vmemPutsSpec)

/-- ITS FALSE NEIGHBOUR: 'it returns false'. Refute it at one input. -/
def vmemPutsWrong : ChangeSpec := { name := "vmemPuts", fn := fun _ => fun
  | [d] => { results := [.lit (.bool false)], args := [d] }
  | _ => none }
def VmemPutsWrongFalsely : Prop := vmemPutsRow.holds Try.pinned (OpenSpec.ofChange vmemPutsWrong)

/-- 'dormouselaw13.VmemProt': WHATEVER THE INPUT: true; the input reads as it did. -/
def vmemProtSpec : ChangeSpec := { name := "vmemProt", fn := fun _ => fun
  | [d1, d2, d3, d4, d5] => { results := [.lit (.bool true)], args := [d1, d2, d3, d4, d5] }
  | _ => none }
def vmemProtRow : OpenClaim := { program := "ytaoillfofiehpaa", sum := "26eafb723c8416c6bc1935679cac26c655c71a9e97e68b26118e635e6c792e60", func := "dormouse/dormouselaw13.VmemProt", spec := "vmemProt", unfollowed := true, recurses := true, apart := false }
def VmemProtSaid : Prop := vmemProtRow.holds Try.pinned (OpenSpec.ofChange vmemProtSpec)

/-- ITS FALSE NEIGHBOUR: 'it returns false'. Refute it at one input. -/
def vmemProtWrong : ChangeSpec := { name := "vmemProt", fn := fun _ => fun
  | [d1, d2, d3, d4, d5] => { results := [.lit (.bool false)], args := [d1, d2, d3, d4, d5] }
  | _ => none }
def VmemProtWrongFalsely : Prop := vmemProtRow.holds Try.pinned (OpenSpec.ofChange vmemProtWrong)

/-- 'dormouselaw13.VmemKeeps': WHATEVER THE INPUT: true; the input reads as it did. -/
def vmemKeepsSpec : ChangeSpec := { name := "vmemKeeps", fn := fun _ => fun
  | [d1, d2, d3, d4] => { results := [.lit (.bool true)], args := [d1, d2, d3, d4] }
  | _ => none }
def vmemKeepsRow : OpenClaim := { program := "ytaoillfofiehpaa", sum := "26eafb723c8416c6bc1935679cac26c655c71a9e97e68b26118e635e6c792e60", func := "dormouse/dormouselaw13.VmemKeeps", spec := "vmemKeeps", unfollowed := true, recurses := true, apart := false }
def VmemKeepsSaid : Prop := vmemKeepsRow.holds Try.pinned (OpenSpec.ofChange vmemKeepsSpec)

/-- ITS FALSE NEIGHBOUR: 'it returns false'. Refute it at one input. -/
def vmemKeepsWrong : ChangeSpec := { name := "vmemKeeps", fn := fun _ => fun
  | [d1, d2, d3, d4] => { results := [.lit (.bool false)], args := [d1, d2, d3, d4] }
  | _ => none }
def VmemKeepsWrongFalsely : Prop := vmemKeepsRow.holds Try.pinned (OpenSpec.ofChange vmemKeepsWrong)

/-- 'dormouselaw13.VmemNone': WHATEVER THE INPUT: true; the input reads as it did. -/
def vmemNoneSpec : ChangeSpec := { name := "vmemNone", fn := fun _ => fun
  | [d] => { results := [.lit (.bool true)], args := [d] }
  | _ => none }
def vmemNoneRow : OpenClaim := { program := "ytaoillfofiehpaa", sum := "26eafb723c8416c6bc1935679cac26c655c71a9e97e68b26118e635e6c792e60", func := "dormouse/dormouselaw13.VmemNone", spec := "vmemNone", unfollowed := true, recurses := true, apart := false }
def VmemNoneSaid : Prop := vmemNoneRow.holds Try.pinned (OpenSpec.ofChange vmemNoneSpec)

/-- ITS FALSE NEIGHBOUR: 'it returns false'. Refute it at one input. -/
def vmemNoneWrong : ChangeSpec := { name := "vmemNone", fn := fun _ => fun
  | [d] => { results := [.lit (.bool false)], args := [d] }
  | _ => none }
def VmemNoneWrongFalsely : Prop := vmemNoneRow.holds Try.pinned (OpenSpec.ofChange vmemNoneWrong)

/-- 'dormouselaw13.VmemPokes': WHATEVER THE INPUT: true; the input reads as it did. -/
def vmemPokesSpec : ChangeSpec := { name := "vmemPokes", fn := fun _ => fun
  | [d1, d2, d3] => { results := [.lit (.bool true)], args := [d1, d2, d3] }
  | _ => none }
def vmemPokesRow : OpenClaim := { program := "ytaoillfofiehpaa", sum := "26eafb723c8416c6bc1935679cac26c655c71a9e97e68b26118e635e6c792e60", func := "dormouse/dormouselaw13.VmemPokes", spec := "vmemPokes", unfollowed := true, recurses := true, apart := false }
def VmemPokesSaid : Prop := vmemPokesRow.holds Try.pinned (OpenSpec.ofChange vmemPokesSpec)

/-- ITS FALSE NEIGHBOUR: 'it returns false'. Refute it at one input. -/
def vmemPokesWrong : ChangeSpec := { name := "vmemPokes", fn := fun _ => fun
  | [d1, d2, d3] => { results := [.lit (.bool false)], args := [d1, d2, d3] }
  | _ => none }
def VmemPokesWrongFalsely : Prop := vmemPokesRow.holds Try.pinned (OpenSpec.ofChange vmemPokesWrong)

/- THE SECOND FORM. 'bulk': how many values and letters a reading holds, each counted each time it is reached (what is shared counts as often as it is met; a slice's spare places count too). A statement '..UptoSaid' is the law's where the arguments, and the package variables that the reading takes, are together of bulk at most 1048576: NARROWER than '..Said'. Prove '..Said' where nothing that the law and all that it calls make is longer than what came in: it says more and counts as full. Else prove '..UptoSaid'. A law counts once. -/
mutual
def uptoBulk {H : Type} : DataW H → Nat
  | .lit (.string bytes) => bytes.length + 1
  | .lit _ => 1
  | .nil => 1
  | .ptr d => uptoBulk d + 1
  | .slice elems spare => uptoBulkAll elems + uptoBulkAll spare + 1
  | .agg parts => uptoBulkAll parts + 1
  | .iface _ d => uptoBulk d + 1
  | .map entries => uptoBulkEntries entries + 1
  | .held _ => 1
def uptoBulkAll {H : Type} : List (DataW H) → Nat
  | [] => 0
  | d :: r => uptoBulk d + uptoBulkAll r
def uptoBulkEntries {H : Type} : List (Lit × DataW H) → Nat
  | [] => 0
  | x :: r => uptoBulkEntry x + uptoBulkEntries r
def uptoBulkEntry {H : Type} : Lit × DataW H → Nat
  | (.string bytes, d) => bytes.length + uptoBulk d + 1
  | (_, d) => uptoBulk d + 1
 end
def uptoSmall : (H : Type) → List (DataW H) → Bool := fun _ ds => decide (uptoBulkAll ds ≤ 1048576)
def OpenSpec.upto (s : _root_.Go.ChangeSpec) : _root_.Go.OpenSpec := { _root_.Go.OpenSpec.ofChange s with cond := some uptoSmall }

/-- 'dormouselaw13.VmemPuts', WHERE WHAT IT READS IS OF BULK AT MOST 1048576: true; the input reads as it did. -/
def vmemPutsUptoRow : OpenClaim := { program := "ytaoillfofiehpaa", sum := "26eafb723c8416c6bc1935679cac26c655c71a9e97e68b26118e635e6c792e60", func := "dormouse/dormouselaw13.VmemPuts", spec := "vmemPuts", unfollowed := true, recurses := true, apart := false, narrowed := true }
def VmemPutsUptoSaid : Prop := vmemPutsUptoRow.holds Try.pinned (OpenSpec.upto vmemPutsSpec)

/-- 'dormouselaw13.VmemProt', WHERE WHAT IT READS IS OF BULK AT MOST 1048576: true; the input reads as it did. -/
def vmemProtUptoRow : OpenClaim := { program := "ytaoillfofiehpaa", sum := "26eafb723c8416c6bc1935679cac26c655c71a9e97e68b26118e635e6c792e60", func := "dormouse/dormouselaw13.VmemProt", spec := "vmemProt", unfollowed := true, recurses := true, apart := false, narrowed := true }
def VmemProtUptoSaid : Prop := vmemProtUptoRow.holds Try.pinned (OpenSpec.upto vmemProtSpec)

/-- 'dormouselaw13.VmemKeeps', WHERE WHAT IT READS IS OF BULK AT MOST 1048576: true; the input reads as it did. -/
def vmemKeepsUptoRow : OpenClaim := { program := "ytaoillfofiehpaa", sum := "26eafb723c8416c6bc1935679cac26c655c71a9e97e68b26118e635e6c792e60", func := "dormouse/dormouselaw13.VmemKeeps", spec := "vmemKeeps", unfollowed := true, recurses := true, apart := false, narrowed := true }
def VmemKeepsUptoSaid : Prop := vmemKeepsUptoRow.holds Try.pinned (OpenSpec.upto vmemKeepsSpec)

/-- 'dormouselaw13.VmemNone', WHERE WHAT IT READS IS OF BULK AT MOST 1048576: true; the input reads as it did. -/
def vmemNoneUptoRow : OpenClaim := { program := "ytaoillfofiehpaa", sum := "26eafb723c8416c6bc1935679cac26c655c71a9e97e68b26118e635e6c792e60", func := "dormouse/dormouselaw13.VmemNone", spec := "vmemNone", unfollowed := true, recurses := true, apart := false, narrowed := true }
def VmemNoneUptoSaid : Prop := vmemNoneUptoRow.holds Try.pinned (OpenSpec.upto vmemNoneSpec)

/-- 'dormouselaw13.VmemPokes', WHERE WHAT IT READS IS OF BULK AT MOST 1048576: true; the input reads as it did. -/
def vmemPokesUptoRow : OpenClaim := { program := "ytaoillfofiehpaa", sum := "26eafb723c8416c6bc1935679cac26c655c71a9e97e68b26118e635e6c792e60", func := "dormouse/dormouselaw13.VmemPokes", spec := "vmemPokes", unfollowed := true, recurses := true, apart := false, narrowed := true }
def VmemPokesUptoSaid : Prop := vmemPokesUptoRow.holds Try.pinned (OpenSpec.upto vmemPokesSpec)

end Rows
end Go.Proofs.Ytaoillfofiehpaa
