/-
  NARROWER THAN 'FOR EVERY INPUT', by the rows' own cells (each row's printed sentence says how): CpuOne: laid · CpuWords: laid · CpuNumbers: laid · CpuJumps: laid · CpuMemory: laid.
  DERIVED. THE GIVEN ROWS OF THIS SEAT. 5 by the template 'for every input the law returns true; each argument reads behind the call as it read before'; 0 by the template 'total and deterministic' (their statements: YtaoillfofiehpaaGreatDoorTotals.lean).
  GIVEN WITH THE SEED: the statements are not yours to turn. If you find one false, say at which input.
  Laid BY PROGRAM, IN A SANDBOX (cutbox-rows.mjs): the forced cells as the released guide's own fill.sh prints them over the translation 8a2e91e17ecfce39… (all of the seat's roots in one cut). By AI agents, Wed Nov 11 2026. No macro, syntax, notation, axiom, sorry.
-/
import Derived.Test.YtaoillfofiehpaaGreatDoorChecked
import GoSem.Claim
import GoSem.ClaimJoined
import GoSem.ClaimMapViews
import Derived.JoinedTies
import Derived.KernelRfl
namespace Go.Proofs.YtaoillfofiehpaaGreatDoor
/- THE CELL 'sum', in the pinned program and in every row, IS THE sha256 OF THE DUMP (.gsa) THAT YtaoillfofiehpaaGreatDoorProg.lean LOADS. Nothing in Lean hashes anything: it is a label: what it is worth is what the hold of that sum in a sandbox is worth. -/
noncomputable def Tryz.pinned : Pinned := { name := "ytaoillfofiehpaagreatdoor", sum := "8a2e91e17ecfce399ef66b10f709899f4ac15f17e89155a382d18347cf27e692", checked := Tryz.checked }
namespace Rows
def none {H : Type} : Left H := { results := [], args := [] }

/- WHAT THE LISTED PACKAGE-LEVEL VARIABLES READ AS WHEN THE CALL BEGINS. Each datum BY PROGRAM (the guide's laid-datum.mjs) off the statement by which the dump's own 'gosem.cut.vars' lays the variable. In a bare row this is a premise. The card (YtaoillfofiehpaaGreatDoorCards.lean) ties it to the program's text. -/
def laid_dormouse_isa_ops {H : Type} : DataW H := .agg [.agg [.lit (.int .i64 1), .lit (.string [110, 111, 112]), .lit (.string [])], .agg [.lit (.int .i64 2), .lit (.string [109, 111, 118]), .lit (.string [97, 98])], .agg [.lit (.int .i64 3), .lit (.string [97, 100, 100]), .lit (.string [97, 98, 99])], .agg [.lit (.int .i64 4), .lit (.string [115, 117, 98]), .lit (.string [97, 98, 99])], .agg [.lit (.int .i64 5), .lit (.string [109, 117, 108]), .lit (.string [97, 98, 99])], .agg [.lit (.int .i64 6), .lit (.string [100, 105, 118]), .lit (.string [97, 98, 99])], .agg [.lit (.int .i64 7), .lit (.string [114, 101, 109]), .lit (.string [97, 98, 99])], .agg [.lit (.int .i64 8), .lit (.string [97, 110, 100]), .lit (.string [97, 98, 99])], .agg [.lit (.int .i64 9), .lit (.string [111, 114]), .lit (.string [97, 98, 99])], .agg [.lit (.int .i64 10), .lit (.string [120, 111, 114]), .lit (.string [97, 98, 99])], .agg [.lit (.int .i64 11), .lit (.string [115, 104, 108]), .lit (.string [97, 98, 99])], .agg [.lit (.int .i64 12), .lit (.string [115, 104, 114]), .lit (.string [97, 98, 99])], .agg [.lit (.int .i64 13), .lit (.string [115, 97, 114]), .lit (.string [97, 98, 99])], .agg [.lit (.int .i64 14), .lit (.string [115, 108, 116]), .lit (.string [97, 98, 99])], .agg [.lit (.int .i64 15), .lit (.string [115, 108, 116, 117]), .lit (.string [97, 98, 99])], .agg [.lit (.int .i64 16), .lit (.string [97, 100, 100, 105]), .lit (.string [97, 98, 105])], .agg [.lit (.int .i64 17), .lit (.string [109, 111, 118, 105]), .lit (.string [97, 105])], .agg [.lit (.int .i64 18), .lit (.string [109, 111, 118, 104, 105]), .lit (.string [97, 105])], .agg [.lit (.int .i64 20), .lit (.string [108, 100, 49]), .lit (.string [97, 98, 105])], .agg [.lit (.int .i64 21), .lit (.string [108, 100, 50]), .lit (.string [97, 98, 105])], .agg [.lit (.int .i64 22), .lit (.string [108, 100, 52]), .lit (.string [97, 98, 105])], .agg [.lit (.int .i64 23), .lit (.string [108, 100, 56]), .lit (.string [97, 98, 105])], .agg [.lit (.int .i64 24), .lit (.string [115, 116, 49]), .lit (.string [97, 98, 105])], .agg [.lit (.int .i64 25), .lit (.string [115, 116, 50]), .lit (.string [97, 98, 105])], .agg [.lit (.int .i64 26), .lit (.string [115, 116, 52]), .lit (.string [97, 98, 105])], .agg [.lit (.int .i64 27), .lit (.string [115, 116, 56]), .lit (.string [97, 98, 105])], .agg [.lit (.int .i64 30), .lit (.string [98, 101, 113]), .lit (.string [97, 98, 105])], .agg [.lit (.int .i64 31), .lit (.string [98, 110, 101]), .lit (.string [97, 98, 105])], .agg [.lit (.int .i64 32), .lit (.string [98, 108, 116]), .lit (.string [97, 98, 105])], .agg [.lit (.int .i64 33), .lit (.string [98, 108, 116, 117]), .lit (.string [97, 98, 105])], .agg [.lit (.int .i64 34), .lit (.string [106, 109, 112]), .lit (.string [105])], .agg [.lit (.int .i64 35), .lit (.string [99, 97, 108, 108]), .lit (.string [97, 105])], .agg [.lit (.int .i64 36), .lit (.string [106, 114]), .lit (.string [98])], .agg [.lit (.int .i64 37), .lit (.string [99, 97, 108, 108, 114]), .lit (.string [97, 98])], .agg [.lit (.int .i64 38), .lit (.string [108, 101, 97]), .lit (.string [97, 105])], .agg [.lit (.int .i64 39), .lit (.string [116, 108, 115]), .lit (.string [97, 105])], .agg [.lit (.int .i64 40), .lit (.string [115, 121, 115]), .lit (.string [])], .agg [.lit (.int .i64 41), .lit (.string [116, 114, 97, 112]), .lit (.string [105])]]
def laid_dormouse_cpu_sizes {H : Type} : DataW H := .agg [.lit (.int .i64 1), .lit (.int .i64 2), .lit (.int .i64 4), .lit (.int .i64 8)]

/-- 'dormouselaw14.CpuOne': WHATEVER THE INPUT: true; the input reads as it did. -/
def cpuOneSpec : ChangeSpec := { name := "cpuOne", fn := fun _ => fun
  | [d1, d2, d3, d4, d5, d6, d7, d8] => { results := [.lit (.bool true)], args := [d1, d2, d3, d4, d5, d6, d7, d8] }
  | _ => none }
def cpuOneRow : OpenClaim := { program := "ytaoillfofiehpaagreatdoor", sum := "8a2e91e17ecfce399ef66b10f709899f4ac15f17e89155a382d18347cf27e692", func := "dormouse/dormouselaw14.CpuOne", spec := "cpuOne", inPlace := ["internal/bytealg.IndexByteString", "internal/bytealg.IndexString"], unfollowed := true, recurses := true, named := ["dormouse/isa.ops", "internal/bytealg.MaxLen", "dormouse/cpu.sizes"], apart := false, laid := [("dormouse/isa.ops", laid_dormouse_isa_ops), ("dormouse/cpu.sizes", laid_dormouse_cpu_sizes)] }
def CpuOneSaid : Prop := cpuOneRow.holds Tryz.pinned (OpenSpec.ofChange cpuOneSpec)

/-- ITS FALSE NEIGHBOUR: 'it returns false'. Refute it at one input. -/
def cpuOneWrong : ChangeSpec := { name := "cpuOne", fn := fun _ => fun
  | [d1, d2, d3, d4, d5, d6, d7, d8] => { results := [.lit (.bool false)], args := [d1, d2, d3, d4, d5, d6, d7, d8] }
  | _ => none }
def CpuOneWrongFalsely : Prop := cpuOneRow.holds Tryz.pinned (OpenSpec.ofChange cpuOneWrong)

/-- 'dormouselaw14.CpuWords': WHATEVER THE INPUT: true; the input reads as it did. -/
def cpuWordsSpec : ChangeSpec := { name := "cpuWords", fn := fun _ => fun
  | [d1, d2, d3, d4, d5, d6] => { results := [.lit (.bool true)], args := [d1, d2, d3, d4, d5, d6] }
  | _ => none }
def cpuWordsRow : OpenClaim := { program := "ytaoillfofiehpaagreatdoor", sum := "8a2e91e17ecfce399ef66b10f709899f4ac15f17e89155a382d18347cf27e692", func := "dormouse/dormouselaw14.CpuWords", spec := "cpuWords", inPlace := ["internal/bytealg.IndexByteString", "internal/bytealg.IndexString"], unfollowed := true, recurses := true, named := ["dormouse/isa.ops", "internal/bytealg.MaxLen", "dormouse/cpu.sizes"], apart := false, laid := [("dormouse/isa.ops", laid_dormouse_isa_ops), ("dormouse/cpu.sizes", laid_dormouse_cpu_sizes)] }
def CpuWordsSaid : Prop := cpuWordsRow.holds Tryz.pinned (OpenSpec.ofChange cpuWordsSpec)

/-- ITS FALSE NEIGHBOUR: 'it returns false'. Refute it at one input. -/
def cpuWordsWrong : ChangeSpec := { name := "cpuWords", fn := fun _ => fun
  | [d1, d2, d3, d4, d5, d6] => { results := [.lit (.bool false)], args := [d1, d2, d3, d4, d5, d6] }
  | _ => none }
def CpuWordsWrongFalsely : Prop := cpuWordsRow.holds Tryz.pinned (OpenSpec.ofChange cpuWordsWrong)

/-- 'dormouselaw14.CpuNumbers': WHATEVER THE INPUT: true; the input reads as it did. -/
def cpuNumbersSpec : ChangeSpec := { name := "cpuNumbers", fn := fun _ => fun
  | [d1, d2, d3] => { results := [.lit (.bool true)], args := [d1, d2, d3] }
  | _ => none }
def cpuNumbersRow : OpenClaim := { program := "ytaoillfofiehpaagreatdoor", sum := "8a2e91e17ecfce399ef66b10f709899f4ac15f17e89155a382d18347cf27e692", func := "dormouse/dormouselaw14.CpuNumbers", spec := "cpuNumbers", inPlace := ["internal/bytealg.IndexByteString", "internal/bytealg.IndexString"], unfollowed := true, recurses := true, named := ["dormouse/isa.ops", "internal/bytealg.MaxLen", "dormouse/cpu.sizes"], apart := false, laid := [("dormouse/isa.ops", laid_dormouse_isa_ops), ("dormouse/cpu.sizes", laid_dormouse_cpu_sizes)] }
def CpuNumbersSaid : Prop := cpuNumbersRow.holds Tryz.pinned (OpenSpec.ofChange cpuNumbersSpec)

/-- ITS FALSE NEIGHBOUR: 'it returns false'. Refute it at one input. -/
def cpuNumbersWrong : ChangeSpec := { name := "cpuNumbers", fn := fun _ => fun
  | [d1, d2, d3] => { results := [.lit (.bool false)], args := [d1, d2, d3] }
  | _ => none }
def CpuNumbersWrongFalsely : Prop := cpuNumbersRow.holds Tryz.pinned (OpenSpec.ofChange cpuNumbersWrong)

/-- 'dormouselaw14.CpuJumps': WHATEVER THE INPUT: true; the input reads as it did. -/
def cpuJumpsSpec : ChangeSpec := { name := "cpuJumps", fn := fun _ => fun
  | [d1, d2, d3, d4] => { results := [.lit (.bool true)], args := [d1, d2, d3, d4] }
  | _ => none }
def cpuJumpsRow : OpenClaim := { program := "ytaoillfofiehpaagreatdoor", sum := "8a2e91e17ecfce399ef66b10f709899f4ac15f17e89155a382d18347cf27e692", func := "dormouse/dormouselaw14.CpuJumps", spec := "cpuJumps", inPlace := ["internal/bytealg.IndexByteString", "internal/bytealg.IndexString"], unfollowed := true, recurses := true, named := ["dormouse/isa.ops", "internal/bytealg.MaxLen", "dormouse/cpu.sizes"], apart := false, laid := [("dormouse/isa.ops", laid_dormouse_isa_ops), ("dormouse/cpu.sizes", laid_dormouse_cpu_sizes)] }
def CpuJumpsSaid : Prop := cpuJumpsRow.holds Tryz.pinned (OpenSpec.ofChange cpuJumpsSpec)

/-- ITS FALSE NEIGHBOUR: 'it returns false'. Refute it at one input. -/
def cpuJumpsWrong : ChangeSpec := { name := "cpuJumps", fn := fun _ => fun
  | [d1, d2, d3, d4] => { results := [.lit (.bool false)], args := [d1, d2, d3, d4] }
  | _ => none }
def CpuJumpsWrongFalsely : Prop := cpuJumpsRow.holds Tryz.pinned (OpenSpec.ofChange cpuJumpsWrong)

/-- 'dormouselaw14.CpuMemory': WHATEVER THE INPUT: true; the input reads as it did. -/
def cpuMemorySpec : ChangeSpec := { name := "cpuMemory", fn := fun _ => fun
  | [d1, d2, d3, d4, d5] => { results := [.lit (.bool true)], args := [d1, d2, d3, d4, d5] }
  | _ => none }
def cpuMemoryRow : OpenClaim := { program := "ytaoillfofiehpaagreatdoor", sum := "8a2e91e17ecfce399ef66b10f709899f4ac15f17e89155a382d18347cf27e692", func := "dormouse/dormouselaw14.CpuMemory", spec := "cpuMemory", inPlace := ["internal/bytealg.IndexByteString", "internal/bytealg.IndexString"], unfollowed := true, recurses := true, named := ["dormouse/isa.ops", "internal/bytealg.MaxLen", "dormouse/cpu.sizes"], apart := false, laid := [("dormouse/isa.ops", laid_dormouse_isa_ops), ("dormouse/cpu.sizes", laid_dormouse_cpu_sizes)] }
def CpuMemorySaid : Prop := cpuMemoryRow.holds Tryz.pinned (OpenSpec.ofChange cpuMemorySpec)

/-- ITS FALSE NEIGHBOUR: 'it returns false'. Refute it at one input. -/
def cpuMemoryWrong : ChangeSpec := { name := "cpuMemory", fn := fun _ => fun
  | [d1, d2, d3, d4, d5] => { results := [.lit (.bool false)], args := [d1, d2, d3, d4, d5] }
  | _ => none }
def CpuMemoryWrongFalsely : Prop := cpuMemoryRow.holds Tryz.pinned (OpenSpec.ofChange cpuMemoryWrong)

/- THE SECOND FORM. 'bulk': how many values and letters a reading holds, each counted each time it is reached (what is shared counts as often as it is met; a slice's spare places count too). A statement '..UptoSaid' is the law's where the arguments, and the package variables that the reading takes, are together of bulk at most 1048576: NARROWER than '..Said'. Prove '..Said' where nothing that the law and all that it calls make is longer than what came in: it says more and counts as full. Else prove '..UptoSaid'. A law counts once. -/
mutual
def uptoBulk {H : Type} : DataW H → Nat
  | .lit (.string bytes) => bytes.length + 1
  | .lit _ => 1
  | .nil => 1
  | .ptr d => uptoBulk d + 1
  | .slice elems spare => uptoBulkAll elems + uptoBulkAll spare + 1
  | .agg parts => uptoBulkAll parts + 1
  | .iface _ d => uptoBulk d + 1
  | .map entries => uptoBulkEntries entries + 1
  | .held _ => 1
def uptoBulkAll {H : Type} : List (DataW H) → Nat
  | [] => 0
  | d :: r => uptoBulk d + uptoBulkAll r
def uptoBulkEntries {H : Type} : List (Lit × DataW H) → Nat
  | [] => 0
  | x :: r => uptoBulkEntry x + uptoBulkEntries r
def uptoBulkEntry {H : Type} : Lit × DataW H → Nat
  | (.string bytes, d) => bytes.length + uptoBulk d + 1
  | (_, d) => uptoBulk d + 1
 end
def uptoSmall : (H : Type) → List (DataW H) → Bool := fun _ ds => decide (uptoBulkAll ds ≤ 1048576)
def OpenSpec.upto (s : _root_.Go.ChangeSpec) : _root_.Go.OpenSpec := { _root_.Go.OpenSpec.ofChange s with cond := some uptoSmall }

/-- 'dormouselaw14.CpuOne', WHERE WHAT IT READS IS OF BULK AT MOST 1048576: true; the input reads as it did. -/
def cpuOneUptoRow : OpenClaim := { program := "ytaoillfofiehpaagreatdoor", sum := "8a2e91e17ecfce399ef66b10f709899f4ac15f17e89155a382d18347cf27e692", func := "dormouse/dormouselaw14.CpuOne", spec := "cpuOne", inPlace := ["internal/bytealg.IndexByteString", "internal/bytealg.IndexString"], unfollowed := true, recurses := true, named := ["dormouse/isa.ops", "internal/bytealg.MaxLen", "dormouse/cpu.sizes"], apart := false, laid := [("dormouse/isa.ops", laid_dormouse_isa_ops), ("dormouse/cpu.sizes", laid_dormouse_cpu_sizes)], narrowed := true }
def CpuOneUptoSaid : Prop := cpuOneUptoRow.holds Tryz.pinned (OpenSpec.upto cpuOneSpec)

/-- 'dormouselaw14.CpuWords', WHERE WHAT IT READS IS OF BULK AT MOST 1048576: true; the input reads as it did. -/
def cpuWordsUptoRow : OpenClaim := { program := "ytaoillfofiehpaagreatdoor", sum := "8a2e91e17ecfce399ef66b10f709899f4ac15f17e89155a382d18347cf27e692", func := "dormouse/dormouselaw14.CpuWords", spec := "cpuWords", inPlace := ["internal/bytealg.IndexByteString", "internal/bytealg.IndexString"], unfollowed := true, recurses := true, named := ["dormouse/isa.ops", "internal/bytealg.MaxLen", "dormouse/cpu.sizes"], apart := false, laid := [("dormouse/isa.ops", laid_dormouse_isa_ops), ("dormouse/cpu.sizes", laid_dormouse_cpu_sizes)], narrowed := true }
def CpuWordsUptoSaid : Prop := cpuWordsUptoRow.holds Tryz.pinned (OpenSpec.upto cpuWordsSpec)

/-- 'dormouselaw14.CpuNumbers', WHERE WHAT IT READS IS OF BULK AT MOST 1048576: true; the input reads as it did. -/
def cpuNumbersUptoRow : OpenClaim := { program := "ytaoillfofiehpaagreatdoor", sum := "8a2e91e17ecfce399ef66b10f709899f4ac15f17e89155a382d18347cf27e692", func := "dormouse/dormouselaw14.CpuNumbers", spec := "cpuNumbers", inPlace := ["internal/bytealg.IndexByteString", "internal/bytealg.IndexString"], unfollowed := true, recurses := true, named := ["dormouse/isa.ops", "internal/bytealg.MaxLen", "dormouse/cpu.sizes"], apart := false, laid := [("dormouse/isa.ops", laid_dormouse_isa_ops), ("dormouse/cpu.sizes", laid_dormouse_cpu_sizes)], narrowed := true }
def CpuNumbersUptoSaid : Prop := cpuNumbersUptoRow.holds Tryz.pinned (OpenSpec.upto cpuNumbersSpec)

/-- 'dormouselaw14.CpuJumps', WHERE WHAT IT READS IS OF BULK AT MOST 1048576: true; the input reads as it did. -/
def cpuJumpsUptoRow : OpenClaim := { program := "ytaoillfofiehpaagreatdoor", sum := "8a2e91e17ecfce399ef66b10f709899f4ac15f17e89155a382d18347cf27e692", func := "dormouse/dormouselaw14.CpuJumps", spec := "cpuJumps", inPlace := ["internal/bytealg.IndexByteString", "internal/bytealg.IndexString"], unfollowed := true, recurses := true, named := ["dormouse/isa.ops", "internal/bytealg.MaxLen", "dormouse/cpu.sizes"], apart := false, laid := [("dormouse/isa.ops", laid_dormouse_isa_ops), ("dormouse/cpu.sizes", laid_dormouse_cpu_sizes)], narrowed := true }
def CpuJumpsUptoSaid : Prop := cpuJumpsUptoRow.holds Tryz.pinned (OpenSpec.upto cpuJumpsSpec)

/-- 'dormouselaw14.CpuMemory', WHERE WHAT IT READS IS OF BULK AT MOST 1048576: true; the input reads as it did. -/
def cpuMemoryUptoRow : OpenClaim := { program := "ytaoillfofiehpaagreatdoor", sum := "8a2e91e17ecfce399ef66b10f709899f4ac15f17e89155a382d18347cf27e692", func := "dormouse/dormouselaw14.CpuMemory", spec := "cpuMemory", inPlace := ["internal/bytealg.IndexByteString", "internal/bytealg.IndexString"], unfollowed := true, recurses := true, named := ["dormouse/isa.ops", "internal/bytealg.MaxLen", "dormouse/cpu.sizes"], apart := false, laid := [("dormouse/isa.ops", laid_dormouse_isa_ops), ("dormouse/cpu.sizes", laid_dormouse_cpu_sizes)], narrowed := true }
def CpuMemoryUptoSaid : Prop := cpuMemoryUptoRow.holds Tryz.pinned (OpenSpec.upto cpuMemorySpec)

end Rows
end Go.Proofs.YtaoillfofiehpaaGreatDoor
