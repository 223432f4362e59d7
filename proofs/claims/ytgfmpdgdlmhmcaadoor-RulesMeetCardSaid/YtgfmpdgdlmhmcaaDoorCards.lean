/-
  DERIVED. GIVEN WITH THE SEED: THE CARDS: each row of YtgfmpdgdlmhmcaaDoorRows.lean that lists a variable, with what it lists TIED to the program's text (the seventh form; the later family's looks); each row that meets fmt, with fmt's text TOLD by the authors' own Lean function (tested against real Go, not proved from fmt's source: count such statements apart). THE CARD IS WHAT COUNTS. Prove the row's statement (the work); the ties are given (YtgfmpdgdlmhmcaaDoorTie.lean); close each card by the builder's one call (the guide's Derived/Test/ToyasCard.lean, 'card_holds'). Laid BY PROGRAM, IN A SANDBOX (cutbox-door.mjs). By AI agents, Wed Nov 11 2026. No macro, syntax, notation, axiom, sorry.
-/
import Derived.Test.YtgfmpdgdlmhmcaaDoorRows
import GoSem.ClaimSeven
namespace Go.Proofs.YtgfmpdgdlmhmcaaDoor
namespace Rows

/-- THE TIED CARD OF 'reedpenlaw05.RulesRight'. -/
def rulesRightCard : Claim7 := { stood := { row := rulesRightRow, standIns := [], harness := (true, "a86de2a0531bd3bb7a31cab1c4e389b91620cfeba67ad7af4a0521139d69bcf5"), looks := true }, kinds := [], alts := [], laidByText := true, laidKinds := [.data, .pinned], laidTests := true, laidLooks := .later }
def RulesRightCardSaid : Prop := Claim7.holds Tryd.pinned (.plain (OpenSpec.ofChange rulesRightSpec)) rulesRightCard

/-- THE TIED CARD OF 'reedpenlaw05.RulesLetters'. -/
def rulesLettersCard : Claim7 := { stood := { row := rulesLettersRow, standIns := [], harness := (true, "a86de2a0531bd3bb7a31cab1c4e389b91620cfeba67ad7af4a0521139d69bcf5"), looks := true }, kinds := [], alts := [], laidByText := true, laidKinds := [.data, .pinned], laidTests := true, laidLooks := .later }
def RulesLettersCardSaid : Prop := Claim7.holds Tryd.pinned (.plain (OpenSpec.ofChange rulesLettersSpec)) rulesLettersCard

/-- THE TIED CARD OF 'reedpenlaw05.RulesMeet'. -/
def rulesMeetCard : Claim7 := { stood := { row := rulesMeetRow, standIns := [], harness := (true, "a86de2a0531bd3bb7a31cab1c4e389b91620cfeba67ad7af4a0521139d69bcf5"), looks := true }, kinds := [], alts := [], laidByText := true, laidKinds := [.data, .pinned], laidTests := true, laidLooks := .later }
def RulesMeetCardSaid : Prop := Claim7.holds Tryd.pinned (.plain (OpenSpec.ofChange rulesMeetSpec)) rulesMeetCard

/-- THE TIED CARD OF 'reedpenlaw05.RulesPrefix'. -/
def rulesPrefixCard : Claim7 := { stood := { row := rulesPrefixRow, standIns := [], harness := (true, "a86de2a0531bd3bb7a31cab1c4e389b91620cfeba67ad7af4a0521139d69bcf5"), looks := true }, kinds := [], alts := [], laidByText := true, laidKinds := [.data, .pinned], laidTests := true, laidLooks := .later }
def RulesPrefixCardSaid : Prop := Claim7.holds Tryd.pinned (.plain (OpenSpec.ofChange rulesPrefixSpec)) rulesPrefixCard

/-- THE SECOND FORM's CARD OF 'reedpenlaw05.RulesRight'. -/
def rulesRightUptoCard : Claim7 := { stood := { row := rulesRightUptoRow, standIns := [], harness := (true, "a86de2a0531bd3bb7a31cab1c4e389b91620cfeba67ad7af4a0521139d69bcf5"), looks := true }, kinds := [], alts := [], laidByText := true, laidKinds := [.data, .pinned], laidTests := true, laidLooks := .later }
def RulesRightUptoCardSaid : Prop := Claim7.holds Tryd.pinned (.plain (OpenSpec.upto rulesRightSpec)) rulesRightUptoCard

/-- THE SECOND FORM's CARD OF 'reedpenlaw05.RulesLetters'. -/
def rulesLettersUptoCard : Claim7 := { stood := { row := rulesLettersUptoRow, standIns := [], harness := (true, "a86de2a0531bd3bb7a31cab1c4e389b91620cfeba67ad7af4a0521139d69bcf5"), looks := true }, kinds := [], alts := [], laidByText := true, laidKinds := [.data, .pinned], laidTests := true, laidLooks := .later }
def RulesLettersUptoCardSaid : Prop := Claim7.holds Tryd.pinned (.plain (OpenSpec.upto rulesLettersSpec)) rulesLettersUptoCard

/-- THE SECOND FORM's CARD OF 'reedpenlaw05.RulesMeet'. -/
def rulesMeetUptoCard : Claim7 := { stood := { row := rulesMeetUptoRow, standIns := [], harness := (true, "a86de2a0531bd3bb7a31cab1c4e389b91620cfeba67ad7af4a0521139d69bcf5"), looks := true }, kinds := [], alts := [], laidByText := true, laidKinds := [.data, .pinned], laidTests := true, laidLooks := .later }
def RulesMeetUptoCardSaid : Prop := Claim7.holds Tryd.pinned (.plain (OpenSpec.upto rulesMeetSpec)) rulesMeetUptoCard

/-- THE SECOND FORM's CARD OF 'reedpenlaw05.RulesPrefix'. -/
def rulesPrefixUptoCard : Claim7 := { stood := { row := rulesPrefixUptoRow, standIns := [], harness := (true, "a86de2a0531bd3bb7a31cab1c4e389b91620cfeba67ad7af4a0521139d69bcf5"), looks := true }, kinds := [], alts := [], laidByText := true, laidKinds := [.data, .pinned], laidTests := true, laidLooks := .later }
def RulesPrefixUptoCardSaid : Prop := Claim7.holds Tryd.pinned (.plain (OpenSpec.upto rulesPrefixSpec)) rulesPrefixUptoCard
end Rows
end Go.Proofs.YtgfmpdgdlmhmcaaDoor
