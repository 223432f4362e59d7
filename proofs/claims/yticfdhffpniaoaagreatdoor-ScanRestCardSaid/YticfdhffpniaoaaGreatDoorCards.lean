/-
  DERIVED. GIVEN WITH THE SEED: THE CARDS: each row of YticfdhffpniaoaaGreatDoorRows.lean that lists a variable, with what it lists TIED to the program's text (the seventh form; the later family's looks); each row that meets fmt, with fmt's text TOLD by the authors' own Lean function (tested against real Go, not proved from fmt's source: count such statements apart). THE CARD IS WHAT COUNTS. Prove the row's statement (the work); the ties are given (YticfdhffpniaoaaGreatDoorTie.lean); close each card by the builder's one call (the guide's Derived/Test/ToyasCard.lean, 'card_holds'). Laid BY PROGRAM, IN A SANDBOX (cutbox-door.mjs). By AI agents, Wed Nov 11 2026. No macro, syntax, notation, axiom, sorry.
-/
import Derived.Test.YticfdhffpniaoaaGreatDoorRows
import GoSem.ClaimSeven
namespace Go.Proofs.YticfdhffpniaoaaGreatDoor
namespace Rows

/-- THE TIED CARD OF 'reedpenlaw09.ScanCuts'. -/
def scanCutsCard : Claim7 := { stood := { row := scanCutsRow, standIns := [], harness := (true, "4c6f62a9a80d55b89ff7bf3dccae20748315ff64573d15000781a3643bdbec51"), looks := true }, kinds := [], alts := [], laidByText := true, laidKinds := [.data, .pinned], laidTests := true, laidLooks := .later }
def ScanCutsCardSaid : Prop := Claim7.holds Tryz.pinned (.plain (OpenSpec.ofChange scanCutsSpec)) scanCutsCard

/-- THE TIED CARD OF 'reedpenlaw09.ScanScanners'. -/
def scanScannersCard : Claim7 := { stood := { row := scanScannersRow, standIns := [], harness := (true, "4c6f62a9a80d55b89ff7bf3dccae20748315ff64573d15000781a3643bdbec51"), looks := true }, kinds := [], alts := [], laidByText := true, laidKinds := [.data, .pinned], laidTests := true, laidLooks := .later }
def ScanScannersCardSaid : Prop := Claim7.holds Tryz.pinned (.plain (OpenSpec.ofChange scanScannersSpec)) scanScannersCard

/-- THE TIED CARD OF 'reedpenlaw09.ScanOne'. -/
def scanOneCard : Claim7 := { stood := { row := scanOneRow, standIns := [], harness := (true, "4c6f62a9a80d55b89ff7bf3dccae20748315ff64573d15000781a3643bdbec51"), looks := true }, kinds := [], alts := [], laidByText := true, laidKinds := [.data, .pinned], laidTests := true, laidLooks := .later }
def ScanOneCardSaid : Prop := Claim7.holds Tryz.pinned (.plain (OpenSpec.ofChange scanOneSpec)) scanOneCard

/-- THE TIED CARD OF 'reedpenlaw09.ScanRest'. -/
def scanRestCard : Claim7 := { stood := { row := scanRestRow, standIns := [], harness := (true, "4c6f62a9a80d55b89ff7bf3dccae20748315ff64573d15000781a3643bdbec51"), looks := true }, kinds := [], alts := [], laidByText := true, laidKinds := [.data, .pinned], laidTests := true, laidLooks := .later }
def ScanRestCardSaid : Prop := Claim7.holds Tryz.pinned (.plain (OpenSpec.ofChange scanRestSpec)) scanRestCard

/-- THE SECOND FORM's CARD OF 'reedpenlaw09.ScanCuts'. -/
def scanCutsUptoCard : Claim7 := { stood := { row := scanCutsUptoRow, standIns := [], harness := (true, "4c6f62a9a80d55b89ff7bf3dccae20748315ff64573d15000781a3643bdbec51"), looks := true }, kinds := [], alts := [], laidByText := true, laidKinds := [.data, .pinned], laidTests := true, laidLooks := .later }
def ScanCutsUptoCardSaid : Prop := Claim7.holds Tryz.pinned (.plain (OpenSpec.upto scanCutsSpec)) scanCutsUptoCard

/-- THE SECOND FORM's CARD OF 'reedpenlaw09.ScanScanners'. -/
def scanScannersUptoCard : Claim7 := { stood := { row := scanScannersUptoRow, standIns := [], harness := (true, "4c6f62a9a80d55b89ff7bf3dccae20748315ff64573d15000781a3643bdbec51"), looks := true }, kinds := [], alts := [], laidByText := true, laidKinds := [.data, .pinned], laidTests := true, laidLooks := .later }
def ScanScannersUptoCardSaid : Prop := Claim7.holds Tryz.pinned (.plain (OpenSpec.upto scanScannersSpec)) scanScannersUptoCard

/-- THE SECOND FORM's CARD OF 'reedpenlaw09.ScanOne'. -/
def scanOneUptoCard : Claim7 := { stood := { row := scanOneUptoRow, standIns := [], harness := (true, "4c6f62a9a80d55b89ff7bf3dccae20748315ff64573d15000781a3643bdbec51"), looks := true }, kinds := [], alts := [], laidByText := true, laidKinds := [.data, .pinned], laidTests := true, laidLooks := .later }
def ScanOneUptoCardSaid : Prop := Claim7.holds Tryz.pinned (.plain (OpenSpec.upto scanOneSpec)) scanOneUptoCard

/-- THE SECOND FORM's CARD OF 'reedpenlaw09.ScanRest'. -/
def scanRestUptoCard : Claim7 := { stood := { row := scanRestUptoRow, standIns := [], harness := (true, "4c6f62a9a80d55b89ff7bf3dccae20748315ff64573d15000781a3643bdbec51"), looks := true }, kinds := [], alts := [], laidByText := true, laidKinds := [.data, .pinned], laidTests := true, laidLooks := .later }
def ScanRestUptoCardSaid : Prop := Claim7.holds Tryz.pinned (.plain (OpenSpec.upto scanRestSpec)) scanRestUptoCard
end Rows
end Go.Proofs.YticfdhffpniaoaaGreatDoor
