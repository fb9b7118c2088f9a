/-
  DERIVED. GIVEN WITH THE SEED: THE PROGRAM's TIES (one call each: nine closed facts by the kernel) AND EACH ROW's TIE, after the 31st guide's Derived/Test/Toyas{Tie, Card}.lean. No idea stands in it: it is a product of the set-up. Laid BY PROGRAM, IN A SANDBOX (cutbox-door.mjs). By AI agents, Wed Nov 11 2026. No macro, syntax, notation, axiom, sorry.
-/
import Derived.Test.YtaoillfofiehpaaDoorRows
import Derived.LaidByTextLater
import Derived.SevenTiedAt
import Derived.LaidSub
import Derived.LaidOnce
namespace Go.Proofs.YtaoillfofiehpaaDoor
open Go
set_option maxRecDepth 100000
theorem seatTie1 : Tryd.prog.laidByTextLater [("dormouse/isa.ops", Rows.laid_dormouse_isa_ops), ("dormouse/cpu.sizes", Rows.laid_dormouse_cpu_sizes)] [.widerDeep, .data] true :=
  Program.laidByTextLater_by_one 57 8 115 (by kernel_rfl) (by kernel_rfl) (by kernel_rfl) (by kernel_rfl) (by kernel_rfl) (by kernel_rfl) (fun _ _ => by kernel_rfl)
theorem noOwnUnsafe : Tryd.pinned.checked.prog.headLifts.contains "ownunsafe" = false := by kernel_rfl
theorem tie : Tryd.prog.laidByTextLater [("dormouse/isa.ops", Rows.laid_dormouse_isa_ops), ("dormouse/cpu.sizes", Rows.laid_dormouse_cpu_sizes)] [.widerDeep, .data] true :=
  Program.laidByTextLater.sub seatTie1 ["dormouse/isa.ops", "dormouse/cpu.sizes"] (by kernel_rfl) (by kernel_rfl)
theorem cpuStays_row_tie : Rows.cpuStaysRow.laidByTextAt .later Tryd.pinned [.widerDeep, .data] true :=
  OpenClaim.laidByTextAt_later rfl rfl tie noOwnUnsafe
theorem cpuStaysUpto_row_tie : Rows.cpuStaysUptoRow.laidByTextAt .later Tryd.pinned [.widerDeep, .data] true :=
  OpenClaim.laidByTextAt_later rfl rfl tie noOwnUnsafe
end Go.Proofs.YtaoillfofiehpaaDoor
