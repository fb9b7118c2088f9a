/-
  DERIVED. GIVEN WITH THE SEED: THE PROGRAM's TIES (one call each: nine closed facts by the kernel) AND EACH ROW's TIE, after the 31st guide's Derived/Test/Toyas{Tie, Card}.lean. No idea stands in it: it is a product of the set-up. Laid BY PROGRAM, IN A SANDBOX (cutbox-door.mjs). By AI agents, Wed Nov 11 2026. No macro, syntax, notation, axiom, sorry.
-/
import Derived.Test.YtaoillfofiehpaaGreatDoorRows
import Derived.LaidByTextLater
import Derived.SevenTiedAt
import Derived.LaidSub
import Derived.LaidOnce
namespace Go.Proofs.YtaoillfofiehpaaGreatDoor
open Go
set_option maxRecDepth 100000
theorem seatTie1 : Tryz.prog.laidByTextLater [("dormouse/isa.ops", Rows.laid_dormouse_isa_ops), ("dormouse/cpu.sizes", Rows.laid_dormouse_cpu_sizes)] [.widerDeep, .data] true :=
  Program.laidByTextLater_by_one 57 8 115 (by kernel_rfl) (by kernel_rfl) (by kernel_rfl) (by kernel_rfl) (by kernel_rfl) (by kernel_rfl) (fun _ _ => by kernel_rfl)
theorem noOwnUnsafe : Tryz.pinned.checked.prog.headLifts.contains "ownunsafe" = false := by kernel_rfl
theorem tie : Tryz.prog.laidByTextLater [("dormouse/isa.ops", Rows.laid_dormouse_isa_ops), ("dormouse/cpu.sizes", Rows.laid_dormouse_cpu_sizes)] [.widerDeep, .data] true :=
  Program.laidByTextLater.sub seatTie1 ["dormouse/isa.ops", "dormouse/cpu.sizes"] (by kernel_rfl) (by kernel_rfl)
theorem cpuOne_row_tie : Rows.cpuOneRow.laidByTextAt .later Tryz.pinned [.widerDeep, .data] true :=
  OpenClaim.laidByTextAt_later rfl rfl tie noOwnUnsafe
theorem cpuWords_row_tie : Rows.cpuWordsRow.laidByTextAt .later Tryz.pinned [.widerDeep, .data] true :=
  OpenClaim.laidByTextAt_later rfl rfl tie noOwnUnsafe
theorem cpuNumbers_row_tie : Rows.cpuNumbersRow.laidByTextAt .later Tryz.pinned [.widerDeep, .data] true :=
  OpenClaim.laidByTextAt_later rfl rfl tie noOwnUnsafe
theorem cpuJumps_row_tie : Rows.cpuJumpsRow.laidByTextAt .later Tryz.pinned [.widerDeep, .data] true :=
  OpenClaim.laidByTextAt_later rfl rfl tie noOwnUnsafe
theorem cpuMemory_row_tie : Rows.cpuMemoryRow.laidByTextAt .later Tryz.pinned [.widerDeep, .data] true :=
  OpenClaim.laidByTextAt_later rfl rfl tie noOwnUnsafe
theorem cpuOneUpto_row_tie : Rows.cpuOneUptoRow.laidByTextAt .later Tryz.pinned [.widerDeep, .data] true :=
  OpenClaim.laidByTextAt_later rfl rfl tie noOwnUnsafe
theorem cpuWordsUpto_row_tie : Rows.cpuWordsUptoRow.laidByTextAt .later Tryz.pinned [.widerDeep, .data] true :=
  OpenClaim.laidByTextAt_later rfl rfl tie noOwnUnsafe
theorem cpuNumbersUpto_row_tie : Rows.cpuNumbersUptoRow.laidByTextAt .later Tryz.pinned [.widerDeep, .data] true :=
  OpenClaim.laidByTextAt_later rfl rfl tie noOwnUnsafe
theorem cpuJumpsUpto_row_tie : Rows.cpuJumpsUptoRow.laidByTextAt .later Tryz.pinned [.widerDeep, .data] true :=
  OpenClaim.laidByTextAt_later rfl rfl tie noOwnUnsafe
theorem cpuMemoryUpto_row_tie : Rows.cpuMemoryUptoRow.laidByTextAt .later Tryz.pinned [.widerDeep, .data] true :=
  OpenClaim.laidByTextAt_later rfl rfl tie noOwnUnsafe
end Go.Proofs.YtaoillfofiehpaaGreatDoor
