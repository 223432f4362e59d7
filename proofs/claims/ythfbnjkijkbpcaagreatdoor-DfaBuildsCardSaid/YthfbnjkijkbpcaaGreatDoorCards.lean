/-
  DERIVED. GIVEN WITH THE SEED: THE CARDS: each row of YthfbnjkijkbpcaaGreatDoorRows.lean that lists a variable, with what it lists TIED to the program's text (the seventh form; the later family's looks); each row that meets fmt, with fmt's text TOLD by the authors' own Lean function (tested against real Go, not proved from fmt's source: count such statements apart). THE CARD IS WHAT COUNTS. Prove the row's statement (the work); the ties are given (YthfbnjkijkbpcaaGreatDoorTie.lean); close each card by the builder's one call (the guide's Derived/Test/ToyasCard.lean, 'card_holds'). Laid BY PROGRAM, IN A SANDBOX (cutbox-door.mjs). By AI agents, Wed Nov 11 2026. No macro, syntax, notation, axiom, sorry.
-/
import Derived.Test.YthfbnjkijkbpcaaGreatDoorRows
import GoSem.ClaimSeven
namespace Go.Proofs.YthfbnjkijkbpcaaGreatDoor
namespace Rows

/-- THE TIED CARD OF 'reedpenlaw07.DfaBuilds'. -/
def dfaBuildsCard : Claim7 := { stood := { row := dfaBuildsRow, standIns := [], harness := (true, "52ef9c1f04ab4b0dec2985edc9af707e387ba8ca0c6fd80644018a0c0f50ecf2"), looks := true }, kinds := [], alts := [], laidByText := true, laidKinds := [.data, .pinned], laidTests := true, laidLooks := .later }
def DfaBuildsCardSaid : Prop := Claim7.holds Tryz.pinned (.plain (OpenSpec.ofChange dfaBuildsSpec)) dfaBuildsCard

/-- THE SECOND FORM's CARD OF 'reedpenlaw07.DfaBuilds'. -/
def dfaBuildsUptoCard : Claim7 := { stood := { row := dfaBuildsUptoRow, standIns := [], harness := (true, "52ef9c1f04ab4b0dec2985edc9af707e387ba8ca0c6fd80644018a0c0f50ecf2"), looks := true }, kinds := [], alts := [], laidByText := true, laidKinds := [.data, .pinned], laidTests := true, laidLooks := .later }
def DfaBuildsUptoCardSaid : Prop := Claim7.holds Tryz.pinned (.plain (OpenSpec.upto dfaBuildsSpec)) dfaBuildsUptoCard
end Rows
end Go.Proofs.YthfbnjkijkbpcaaGreatDoor
