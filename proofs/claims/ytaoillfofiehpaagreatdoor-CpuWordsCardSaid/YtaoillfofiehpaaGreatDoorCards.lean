/-
  DERIVED. GIVEN WITH THE SEED: THE CARDS: each row of YtaoillfofiehpaaGreatDoorRows.lean that lists a variable, with what it lists TIED to the program's text (the seventh form; the later family's looks); each row that meets fmt, with fmt's text TOLD by the authors' own Lean function (tested against real Go, not proved from fmt's source: count such statements apart). THE CARD IS WHAT COUNTS. Prove the row's statement (the work); the ties are given (YtaoillfofiehpaaGreatDoorTie.lean); close each card by the builder's one call (the guide's Derived/Test/ToyasCard.lean, 'card_holds'). Laid BY PROGRAM, IN A SANDBOX (cutbox-door.mjs). By AI agents, Wed Nov 11 2026. No macro, syntax, notation, axiom, sorry.
-/
import Derived.Test.YtaoillfofiehpaaGreatDoorRows
import GoSem.ClaimSeven
namespace Go.Proofs.YtaoillfofiehpaaGreatDoor
namespace Rows

/-- THE TIED CARD OF 'dormouselaw14.CpuOne'. -/
def cpuOneCard : Claim7 := { stood := { row := cpuOneRow, standIns := [], harness := (true, "0ec4b967420294a0095cdac4bf5c2797f4a6683d497ca481b4c3a9f004b03bd6"), looks := false }, kinds := [], alts := [], laidByText := true, laidKinds := [.widerDeep, .data], laidTests := true, laidLooks := .later }
def CpuOneCardSaid : Prop := Claim7.holds Tryz.pinned (.plain (OpenSpec.ofChange cpuOneSpec)) cpuOneCard

/-- THE TIED CARD OF 'dormouselaw14.CpuWords'. -/
def cpuWordsCard : Claim7 := { stood := { row := cpuWordsRow, standIns := [], harness := (true, "0ec4b967420294a0095cdac4bf5c2797f4a6683d497ca481b4c3a9f004b03bd6"), looks := false }, kinds := [], alts := [], laidByText := true, laidKinds := [.widerDeep, .data], laidTests := true, laidLooks := .later }
def CpuWordsCardSaid : Prop := Claim7.holds Tryz.pinned (.plain (OpenSpec.ofChange cpuWordsSpec)) cpuWordsCard

/-- THE TIED CARD OF 'dormouselaw14.CpuNumbers'. -/
def cpuNumbersCard : Claim7 := { stood := { row := cpuNumbersRow, standIns := [], harness := (true, "0ec4b967420294a0095cdac4bf5c2797f4a6683d497ca481b4c3a9f004b03bd6"), looks := false }, kinds := [], alts := [], laidByText := true, laidKinds := [.widerDeep, .data], laidTests := true, laidLooks := .later }
def CpuNumbersCardSaid : Prop := Claim7.holds Tryz.pinned (.plain (OpenSpec.ofChange cpuNumbersSpec)) cpuNumbersCard

/-- THE TIED CARD OF 'dormouselaw14.CpuJumps'. -/
def cpuJumpsCard : Claim7 := { stood := { row := cpuJumpsRow, standIns := [], harness := (true, "0ec4b967420294a0095cdac4bf5c2797f4a6683d497ca481b4c3a9f004b03bd6"), looks := false }, kinds := [], alts := [], laidByText := true, laidKinds := [.widerDeep, .data], laidTests := true, laidLooks := .later }
def CpuJumpsCardSaid : Prop := Claim7.holds Tryz.pinned (.plain (OpenSpec.ofChange cpuJumpsSpec)) cpuJumpsCard

/-- THE TIED CARD OF 'dormouselaw14.CpuMemory'. -/
def cpuMemoryCard : Claim7 := { stood := { row := cpuMemoryRow, standIns := [], harness := (true, "0ec4b967420294a0095cdac4bf5c2797f4a6683d497ca481b4c3a9f004b03bd6"), looks := false }, kinds := [], alts := [], laidByText := true, laidKinds := [.widerDeep, .data], laidTests := true, laidLooks := .later }
def CpuMemoryCardSaid : Prop := Claim7.holds Tryz.pinned (.plain (OpenSpec.ofChange cpuMemorySpec)) cpuMemoryCard

/-- THE SECOND FORM's CARD OF 'dormouselaw14.CpuOne'. -/
def cpuOneUptoCard : Claim7 := { stood := { row := cpuOneUptoRow, standIns := [], harness := (true, "0ec4b967420294a0095cdac4bf5c2797f4a6683d497ca481b4c3a9f004b03bd6"), looks := false }, kinds := [], alts := [], laidByText := true, laidKinds := [.widerDeep, .data], laidTests := true, laidLooks := .later }
def CpuOneUptoCardSaid : Prop := Claim7.holds Tryz.pinned (.plain (OpenSpec.upto cpuOneSpec)) cpuOneUptoCard

/-- THE SECOND FORM's CARD OF 'dormouselaw14.CpuWords'. -/
def cpuWordsUptoCard : Claim7 := { stood := { row := cpuWordsUptoRow, standIns := [], harness := (true, "0ec4b967420294a0095cdac4bf5c2797f4a6683d497ca481b4c3a9f004b03bd6"), looks := false }, kinds := [], alts := [], laidByText := true, laidKinds := [.widerDeep, .data], laidTests := true, laidLooks := .later }
def CpuWordsUptoCardSaid : Prop := Claim7.holds Tryz.pinned (.plain (OpenSpec.upto cpuWordsSpec)) cpuWordsUptoCard

/-- THE SECOND FORM's CARD OF 'dormouselaw14.CpuNumbers'. -/
def cpuNumbersUptoCard : Claim7 := { stood := { row := cpuNumbersUptoRow, standIns := [], harness := (true, "0ec4b967420294a0095cdac4bf5c2797f4a6683d497ca481b4c3a9f004b03bd6"), looks := false }, kinds := [], alts := [], laidByText := true, laidKinds := [.widerDeep, .data], laidTests := true, laidLooks := .later }
def CpuNumbersUptoCardSaid : Prop := Claim7.holds Tryz.pinned (.plain (OpenSpec.upto cpuNumbersSpec)) cpuNumbersUptoCard

/-- THE SECOND FORM's CARD OF 'dormouselaw14.CpuJumps'. -/
def cpuJumpsUptoCard : Claim7 := { stood := { row := cpuJumpsUptoRow, standIns := [], harness := (true, "0ec4b967420294a0095cdac4bf5c2797f4a6683d497ca481b4c3a9f004b03bd6"), looks := false }, kinds := [], alts := [], laidByText := true, laidKinds := [.widerDeep, .data], laidTests := true, laidLooks := .later }
def CpuJumpsUptoCardSaid : Prop := Claim7.holds Tryz.pinned (.plain (OpenSpec.upto cpuJumpsSpec)) cpuJumpsUptoCard

/-- THE SECOND FORM's CARD OF 'dormouselaw14.CpuMemory'. -/
def cpuMemoryUptoCard : Claim7 := { stood := { row := cpuMemoryUptoRow, standIns := [], harness := (true, "0ec4b967420294a0095cdac4bf5c2797f4a6683d497ca481b4c3a9f004b03bd6"), looks := false }, kinds := [], alts := [], laidByText := true, laidKinds := [.widerDeep, .data], laidTests := true, laidLooks := .later }
def CpuMemoryUptoCardSaid : Prop := Claim7.holds Tryz.pinned (.plain (OpenSpec.upto cpuMemorySpec)) cpuMemoryUptoCard
end Rows
end Go.Proofs.YtaoillfofiehpaaGreatDoor
