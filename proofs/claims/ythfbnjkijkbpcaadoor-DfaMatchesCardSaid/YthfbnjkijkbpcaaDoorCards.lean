/-
  DERIVED. GIVEN WITH THE SEED: THE CARDS: each row of YthfbnjkijkbpcaaDoorRows.lean that lists a variable, with what it lists TIED to the program's text (the seventh form; the later family's looks); each row that meets fmt, with fmt's text TOLD by the authors' own Lean function (tested against real Go, not proved from fmt's source: count such statements apart). THE CARD IS WHAT COUNTS. Prove the row's statement (the work); the ties are given (YthfbnjkijkbpcaaDoorTie.lean); close each card by the builder's one call (the guide's Derived/Test/ToyasCard.lean, 'card_holds'). Laid BY PROGRAM, IN A SANDBOX (cutbox-door.mjs). By AI agents, Wed Nov 11 2026. No macro, syntax, notation, axiom, sorry.
-/
import Derived.Test.YthfbnjkijkbpcaaDoorRows
import GoSem.ClaimSeven
namespace Go.Proofs.YthfbnjkijkbpcaaDoor
namespace Rows

/-- THE TIED CARD OF 'reedpenlaw07.DfaRuns'. -/
def dfaRunsCard : Claim7 := { stood := { row := dfaRunsRow, standIns := [], harness := (true, "fbceb66a48ae087550cce282f433fadfb992a5f41fc447675e349750b8381148"), looks := true }, kinds := [], alts := [], laidByText := true, laidKinds := [.data, .pinned], laidTests := true, laidLooks := .later }
def DfaRunsCardSaid : Prop := Claim7.holds Tryd.pinned (.plain (OpenSpec.ofChange dfaRunsSpec)) dfaRunsCard

/-- THE TIED CARD OF 'reedpenlaw07.DfaMatches'. -/
def dfaMatchesCard : Claim7 := { stood := { row := dfaMatchesRow, standIns := [], harness := (true, "fbceb66a48ae087550cce282f433fadfb992a5f41fc447675e349750b8381148"), looks := true }, kinds := [], alts := [], laidByText := true, laidKinds := [.data, .pinned], laidTests := true, laidLooks := .later }
def DfaMatchesCardSaid : Prop := Claim7.holds Tryd.pinned (.plain (OpenSpec.ofChange dfaMatchesSpec)) dfaMatchesCard

/-- THE TIED CARD OF 'reedpenlaw07.DfaPrefix'. -/
def dfaPrefixCard : Claim7 := { stood := { row := dfaPrefixRow, standIns := [], harness := (true, "fbceb66a48ae087550cce282f433fadfb992a5f41fc447675e349750b8381148"), looks := true }, kinds := [], alts := [], laidByText := true, laidKinds := [.data, .pinned], laidTests := true, laidLooks := .later }
def DfaPrefixCardSaid : Prop := Claim7.holds Tryd.pinned (.plain (OpenSpec.ofChange dfaPrefixSpec)) dfaPrefixCard

/-- THE SECOND FORM's CARD OF 'reedpenlaw07.DfaRuns'. -/
def dfaRunsUptoCard : Claim7 := { stood := { row := dfaRunsUptoRow, standIns := [], harness := (true, "fbceb66a48ae087550cce282f433fadfb992a5f41fc447675e349750b8381148"), looks := true }, kinds := [], alts := [], laidByText := true, laidKinds := [.data, .pinned], laidTests := true, laidLooks := .later }
def DfaRunsUptoCardSaid : Prop := Claim7.holds Tryd.pinned (.plain (OpenSpec.upto dfaRunsSpec)) dfaRunsUptoCard

/-- THE SECOND FORM's CARD OF 'reedpenlaw07.DfaMatches'. -/
def dfaMatchesUptoCard : Claim7 := { stood := { row := dfaMatchesUptoRow, standIns := [], harness := (true, "fbceb66a48ae087550cce282f433fadfb992a5f41fc447675e349750b8381148"), looks := true }, kinds := [], alts := [], laidByText := true, laidKinds := [.data, .pinned], laidTests := true, laidLooks := .later }
def DfaMatchesUptoCardSaid : Prop := Claim7.holds Tryd.pinned (.plain (OpenSpec.upto dfaMatchesSpec)) dfaMatchesUptoCard

/-- THE SECOND FORM's CARD OF 'reedpenlaw07.DfaPrefix'. -/
def dfaPrefixUptoCard : Claim7 := { stood := { row := dfaPrefixUptoRow, standIns := [], harness := (true, "fbceb66a48ae087550cce282f433fadfb992a5f41fc447675e349750b8381148"), looks := true }, kinds := [], alts := [], laidByText := true, laidKinds := [.data, .pinned], laidTests := true, laidLooks := .later }
def DfaPrefixUptoCardSaid : Prop := Claim7.holds Tryd.pinned (.plain (OpenSpec.upto dfaPrefixSpec)) dfaPrefixUptoCard
end Rows
end Go.Proofs.YthfbnjkijkbpcaaDoor
