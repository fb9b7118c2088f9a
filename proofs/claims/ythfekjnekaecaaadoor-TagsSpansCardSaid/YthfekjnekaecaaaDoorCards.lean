/-
  DERIVED. GIVEN WITH THE SEED: THE CARDS: each row of YthfekjnekaecaaaDoorRows.lean that lists a variable, with what it lists TIED to the program's text (the seventh form; the later family's looks); each row that meets fmt, with fmt's text TOLD by the authors' own Lean function (tested against real Go, not proved from fmt's source: count such statements apart). THE CARD IS WHAT COUNTS. Prove the row's statement (the work); the ties are given (YthfekjnekaecaaaDoorTie.lean); close each card by the builder's one call (the guide's Derived/Test/ToyasCard.lean, 'card_holds'). Laid BY PROGRAM, IN A SANDBOX (cutbox-door.mjs). By AI agents, Wed Nov 11 2026. No macro, syntax, notation, axiom, sorry.
-/
import Derived.Test.YthfekjnekaecaaaDoorRows
import GoSem.ClaimSeven
namespace Go.Proofs.YthfekjnekaecaaaDoor
namespace Rows

/-- THE TIED CARD OF 'dormouselaw18.TagsNumbers'. -/
def tagsNumbersCard : Claim7 := { stood := { row := tagsNumbersRow, standIns := [], harness := (true, "2ff78868971a56b51d4e3f5889b604c4154b8610769653cb2d6964cb2e3666a2"), looks := true }, kinds := [], alts := [], laidByText := true, laidKinds := [.widerDeep], laidTests := true, laidLooks := .later }
def TagsNumbersCardSaid : Prop := Claim7.holds Tryd.pinned (.plain (OpenSpec.ofChange tagsNumbersSpec)) tagsNumbersCard

/-- THE TIED CARD OF 'dormouselaw18.TagsNone'. -/
def tagsNoneCard : Claim7 := { stood := { row := tagsNoneRow, standIns := [], harness := (true, "2ff78868971a56b51d4e3f5889b604c4154b8610769653cb2d6964cb2e3666a2"), looks := true }, kinds := [], alts := [], laidByText := true, laidKinds := [.widerDeep], laidTests := true, laidLooks := .later }
def TagsNoneCardSaid : Prop := Claim7.holds Tryd.pinned (.plain (OpenSpec.ofChange tagsNoneSpec)) tagsNoneCard

/-- THE TIED CARD OF 'dormouselaw18.TagsSpans'. -/
def tagsSpansCard : Claim7 := { stood := { row := tagsSpansRow, standIns := [], harness := (true, "2ff78868971a56b51d4e3f5889b604c4154b8610769653cb2d6964cb2e3666a2"), looks := true }, kinds := [], alts := [], laidByText := true, laidKinds := [.widerDeep], laidTests := true, laidLooks := .later }
def TagsSpansCardSaid : Prop := Claim7.holds Tryd.pinned (.plain (OpenSpec.ofChange tagsSpansSpec)) tagsSpansCard

/-- THE SECOND FORM's CARD OF 'dormouselaw18.TagsNumbers'. -/
def tagsNumbersUptoCard : Claim7 := { stood := { row := tagsNumbersUptoRow, standIns := [], harness := (true, "2ff78868971a56b51d4e3f5889b604c4154b8610769653cb2d6964cb2e3666a2"), looks := true }, kinds := [], alts := [], laidByText := true, laidKinds := [.widerDeep], laidTests := true, laidLooks := .later }
def TagsNumbersUptoCardSaid : Prop := Claim7.holds Tryd.pinned (.plain (OpenSpec.upto tagsNumbersSpec)) tagsNumbersUptoCard

/-- THE SECOND FORM's CARD OF 'dormouselaw18.TagsNone'. -/
def tagsNoneUptoCard : Claim7 := { stood := { row := tagsNoneUptoRow, standIns := [], harness := (true, "2ff78868971a56b51d4e3f5889b604c4154b8610769653cb2d6964cb2e3666a2"), looks := true }, kinds := [], alts := [], laidByText := true, laidKinds := [.widerDeep], laidTests := true, laidLooks := .later }
def TagsNoneUptoCardSaid : Prop := Claim7.holds Tryd.pinned (.plain (OpenSpec.upto tagsNoneSpec)) tagsNoneUptoCard

/-- THE SECOND FORM's CARD OF 'dormouselaw18.TagsSpans'. -/
def tagsSpansUptoCard : Claim7 := { stood := { row := tagsSpansUptoRow, standIns := [], harness := (true, "2ff78868971a56b51d4e3f5889b604c4154b8610769653cb2d6964cb2e3666a2"), looks := true }, kinds := [], alts := [], laidByText := true, laidKinds := [.widerDeep], laidTests := true, laidLooks := .later }
def TagsSpansUptoCardSaid : Prop := Claim7.holds Tryd.pinned (.plain (OpenSpec.upto tagsSpansSpec)) tagsSpansUptoCard
end Rows
end Go.Proofs.YthfekjnekaecaaaDoor
