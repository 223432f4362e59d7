/-
  DERIVED. GIVEN WITH THE SEED: THE CARDS: each row of YtdpcldllmiakkaaGreatDoorRows.lean that lists a variable, with what it lists TIED to the program's text (the seventh form; the later family's looks); each row that meets fmt, with fmt's text TOLD by the authors' own Lean function (tested against real Go, not proved from fmt's source: count such statements apart). THE CARD IS WHAT COUNTS. Prove the row's statement (the work); the ties are given (YtdpcldllmiakkaaGreatDoorTie.lean); close each card by the builder's one call (the guide's Derived/Test/ToyasCard.lean, 'card_holds'). Laid BY PROGRAM, IN A SANDBOX (cutbox-door.mjs). By AI agents, Wed Nov 11 2026. No macro, syntax, notation, axiom, sorry.
-/
import Derived.Test.YtdpcldllmiakkaaGreatDoorRows
import GoSem.ClaimSeven
namespace Go.Proofs.YtdpcldllmiakkaaGreatDoor
namespace Rows

/-- THE TIED CARD OF 'reedpenlaw25.ModelRows'. -/
def modelRowsCard : Claim7 := { stood := { row := modelRowsRow, standIns := [], harness := (true, "55b55bb85138521ef719988225d265a0c9e5ded36f697505e51204611805478e"), looks := true }, kinds := [], alts := [], laidByText := true, laidKinds := [.data, .pinned], laidTests := true, laidLooks := .later }
def ModelRowsCardSaid : Prop := Claim7.holds Tryz.pinned (.plain (OpenSpec.ofChange modelRowsSpec)) modelRowsCard

/-- THE TIED CARD OF 'reedpenlaw25.ModelStages'. -/
def modelStagesCard : Claim7 := { stood := { row := modelStagesRow, standIns := [], harness := (true, "55b55bb85138521ef719988225d265a0c9e5ded36f697505e51204611805478e"), looks := true }, kinds := [], alts := [], laidByText := true, laidKinds := [.data, .pinned], laidTests := true, laidLooks := .later }
def ModelStagesCardSaid : Prop := Claim7.holds Tryz.pinned (.plain (OpenSpec.ofChange modelStagesSpec)) modelStagesCard

/-- THE TIED CARD OF 'reedpenlaw25.ModelScans'. -/
def modelScansCard : Claim7 := { stood := { row := modelScansRow, standIns := [], harness := (true, "55b55bb85138521ef719988225d265a0c9e5ded36f697505e51204611805478e"), looks := true }, kinds := [], alts := [], laidByText := true, laidKinds := [.data, .pinned], laidTests := true, laidLooks := .later }
def ModelScansCardSaid : Prop := Claim7.holds Tryz.pinned (.plain (OpenSpec.ofChange modelScansSpec)) modelScansCard

/-- THE TIED CARD OF 'reedpenlaw25.ModelRight'. -/
def modelRightCard : Claim7 := { stood := { row := modelRightRow, standIns := [], harness := (true, "55b55bb85138521ef719988225d265a0c9e5ded36f697505e51204611805478e"), looks := true }, kinds := [], alts := [], laidByText := true, laidKinds := [.data, .pinned], laidTests := true, laidLooks := .later }
def ModelRightCardSaid : Prop := Claim7.holds Tryz.pinned (.plain (OpenSpec.ofChange modelRightSpec)) modelRightCard

/-- THE TIED CARD OF 'reedpenlaw25.ModelTags'. -/
def modelTagsCard : Claim7 := { stood := { row := modelTagsRow, standIns := [], harness := (true, "55b55bb85138521ef719988225d265a0c9e5ded36f697505e51204611805478e"), looks := true }, kinds := [], alts := [], laidByText := true, laidKinds := [.data, .pinned], laidTests := true, laidLooks := .later }
def ModelTagsCardSaid : Prop := Claim7.holds Tryz.pinned (.plain (OpenSpec.ofChange modelTagsSpec)) modelTagsCard

/-- THE SECOND FORM's CARD OF 'reedpenlaw25.ModelRows'. -/
def modelRowsUptoCard : Claim7 := { stood := { row := modelRowsUptoRow, standIns := [], harness := (true, "55b55bb85138521ef719988225d265a0c9e5ded36f697505e51204611805478e"), looks := true }, kinds := [], alts := [], laidByText := true, laidKinds := [.data, .pinned], laidTests := true, laidLooks := .later }
def ModelRowsUptoCardSaid : Prop := Claim7.holds Tryz.pinned (.plain (OpenSpec.upto modelRowsSpec)) modelRowsUptoCard

/-- THE SECOND FORM's CARD OF 'reedpenlaw25.ModelStages'. -/
def modelStagesUptoCard : Claim7 := { stood := { row := modelStagesUptoRow, standIns := [], harness := (true, "55b55bb85138521ef719988225d265a0c9e5ded36f697505e51204611805478e"), looks := true }, kinds := [], alts := [], laidByText := true, laidKinds := [.data, .pinned], laidTests := true, laidLooks := .later }
def ModelStagesUptoCardSaid : Prop := Claim7.holds Tryz.pinned (.plain (OpenSpec.upto modelStagesSpec)) modelStagesUptoCard

/-- THE SECOND FORM's CARD OF 'reedpenlaw25.ModelScans'. -/
def modelScansUptoCard : Claim7 := { stood := { row := modelScansUptoRow, standIns := [], harness := (true, "55b55bb85138521ef719988225d265a0c9e5ded36f697505e51204611805478e"), looks := true }, kinds := [], alts := [], laidByText := true, laidKinds := [.data, .pinned], laidTests := true, laidLooks := .later }
def ModelScansUptoCardSaid : Prop := Claim7.holds Tryz.pinned (.plain (OpenSpec.upto modelScansSpec)) modelScansUptoCard

/-- THE SECOND FORM's CARD OF 'reedpenlaw25.ModelRight'. -/
def modelRightUptoCard : Claim7 := { stood := { row := modelRightUptoRow, standIns := [], harness := (true, "55b55bb85138521ef719988225d265a0c9e5ded36f697505e51204611805478e"), looks := true }, kinds := [], alts := [], laidByText := true, laidKinds := [.data, .pinned], laidTests := true, laidLooks := .later }
def ModelRightUptoCardSaid : Prop := Claim7.holds Tryz.pinned (.plain (OpenSpec.upto modelRightSpec)) modelRightUptoCard

/-- THE SECOND FORM's CARD OF 'reedpenlaw25.ModelTags'. -/
def modelTagsUptoCard : Claim7 := { stood := { row := modelTagsUptoRow, standIns := [], harness := (true, "55b55bb85138521ef719988225d265a0c9e5ded36f697505e51204611805478e"), looks := true }, kinds := [], alts := [], laidByText := true, laidKinds := [.data, .pinned], laidTests := true, laidLooks := .later }
def ModelTagsUptoCardSaid : Prop := Claim7.holds Tryz.pinned (.plain (OpenSpec.upto modelTagsSpec)) modelTagsUptoCard
end Rows
end Go.Proofs.YtdpcldllmiakkaaGreatDoor
