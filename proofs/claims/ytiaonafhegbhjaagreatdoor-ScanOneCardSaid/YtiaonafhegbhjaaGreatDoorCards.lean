/-
  DERIVED. GIVEN WITH THE SEED: THE CARDS: each row of YtiaonafhegbhjaaGreatDoorRows.lean that lists a variable, with what it lists TIED to the program's text (the seventh form; the later family's looks); each row that meets fmt, with fmt's text TOLD by the authors' own Lean function (tested against real Go, not proved from fmt's source: count such statements apart). THE CARD IS WHAT COUNTS. Prove the row's statement (the work); the ties are given (YtiaonafhegbhjaaGreatDoorTie.lean); close each card by the builder's one call (the guide's Derived/Test/ToyasCard.lean, 'card_holds'). Laid BY PROGRAM, IN A SANDBOX (cutbox-door.mjs). By AI agents, Wed Nov 11 2026. No macro, syntax, notation, axiom, sorry.
-/
import Derived.Test.YtiaonafhegbhjaaGreatDoorRows
import GoSem.ClaimSeven
namespace Go.Proofs.YtiaonafhegbhjaaGreatDoor
namespace Rows

/-- THE TIED CARD OF 'reedpenlaw09.ScanOne'. -/
def scanOneCard : Claim7 := { stood := { row := scanOneRow, standIns := [], harness := (true, "9f4d365808522005e5bfbd58bb1cdc72ff78e6e90e4efe95f40c626c45ca9630"), looks := true }, kinds := [], alts := [], laidByText := true, laidKinds := [.data, .pinned], laidTests := true, laidLooks := .later }
def ScanOneCardSaid : Prop := Claim7.holds Tryz.pinned (.plain (OpenSpec.ofChange scanOneSpec)) scanOneCard

/-- THE SECOND FORM's CARD OF 'reedpenlaw09.ScanOne'. -/
def scanOneUptoCard : Claim7 := { stood := { row := scanOneUptoRow, standIns := [], harness := (true, "9f4d365808522005e5bfbd58bb1cdc72ff78e6e90e4efe95f40c626c45ca9630"), looks := true }, kinds := [], alts := [], laidByText := true, laidKinds := [.data, .pinned], laidTests := true, laidLooks := .later }
def ScanOneUptoCardSaid : Prop := Claim7.holds Tryz.pinned (.plain (OpenSpec.upto scanOneSpec)) scanOneUptoCard
end Rows
end Go.Proofs.YtiaonafhegbhjaaGreatDoor
