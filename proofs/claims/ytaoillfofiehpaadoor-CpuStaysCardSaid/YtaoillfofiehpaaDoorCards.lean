/-
  DERIVED. GIVEN WITH THE SEED: THE CARDS: each row of YtaoillfofiehpaaDoorRows.lean that lists a variable, with what it lists TIED to the program's text (the seventh form; the later family's looks); each row that meets fmt, with fmt's text TOLD by the authors' own Lean function (tested against real Go, not proved from fmt's source: count such statements apart). THE CARD IS WHAT COUNTS. Prove the row's statement (the work); the ties are given (YtaoillfofiehpaaDoorTie.lean); close each card by the builder's one call (the guide's Derived/Test/ToyasCard.lean, 'card_holds'). Laid BY PROGRAM, IN A SANDBOX (cutbox-door.mjs). By AI agents, Wed Nov 11 2026. No macro, syntax, notation, axiom, sorry.
-/
import Derived.Test.YtaoillfofiehpaaDoorRows
import GoSem.ClaimSeven
namespace Go.Proofs.YtaoillfofiehpaaDoor
namespace Rows

/-- THE TIED CARD OF 'dormouselaw14.CpuStays'. -/
def cpuStaysCard : Claim7 := { stood := { row := cpuStaysRow, standIns := [], harness := (true, "ec38454a876112527ff40a55af108fd71bc7292a9eb3415f3092fe2106ec21a0"), looks := false }, kinds := [], alts := [], laidByText := true, laidKinds := [.widerDeep, .data], laidTests := true, laidLooks := .later }
def CpuStaysCardSaid : Prop := Claim7.holds Tryd.pinned (.plain (OpenSpec.ofChange cpuStaysSpec)) cpuStaysCard

/-- THE SECOND FORM's CARD OF 'dormouselaw14.CpuStays'. -/
def cpuStaysUptoCard : Claim7 := { stood := { row := cpuStaysUptoRow, standIns := [], harness := (true, "ec38454a876112527ff40a55af108fd71bc7292a9eb3415f3092fe2106ec21a0"), looks := false }, kinds := [], alts := [], laidByText := true, laidKinds := [.widerDeep, .data], laidTests := true, laidLooks := .later }
def CpuStaysUptoCardSaid : Prop := Claim7.holds Tryd.pinned (.plain (OpenSpec.upto cpuStaysSpec)) cpuStaysUptoCard
end Rows
end Go.Proofs.YtaoillfofiehpaaDoor
