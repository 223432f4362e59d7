/-
  NARROWER THAN 'FOR EVERY INPUT', by the rows' own cells (each row's printed sentence says how): RulesRight: loops, laid · RulesLetters: laid · RulesMeet: laid · RulesPrefix: loops, laid.
  DERIVED. THE GIVEN ROWS OF THIS SEAT. 4 by the template 'for every input the law returns true; each argument reads behind the call as it read before'; 0 by the template 'total and deterministic' (their statements: YtgfmpdgdlmhmcaaDoorTotals.lean).
  GIVEN WITH THE SEED: the statements are not yours to turn. If you find one false, say at which input.
  Laid BY PROGRAM, IN A SANDBOX (cutbox-rows.mjs): the forced cells as the released guide's own fill.sh prints them over the translation 39c215bae226cba9… (all of the seat's roots in one cut). By AI agents, Wed Nov 11 2026. No macro, syntax, notation, axiom, sorry.
-/
import Derived.Test.YtgfmpdgdlmhmcaaDoorChecked
import GoSem.PinnedTables
import GoSem.Claim
import GoSem.ClaimJoined
import GoSem.ClaimMapViews
import Derived.JoinedTies
import Derived.KernelRfl
namespace Go.Proofs.YtgfmpdgdlmhmcaaDoor
/- THE CELL 'sum', in the pinned program and in every row, IS THE sha256 OF THE DUMP (.gsa) THAT YtgfmpdgdlmhmcaaDoorProg.lean LOADS. Nothing in Lean hashes anything: it is a label: what it is worth is what the hold of that sum in a sandbox is worth. -/
noncomputable def Tryd.pinned : Pinned := { name := "ytgfmpdgdlmhmcaadoor", sum := "39c215bae226cba94c2f600880308bde98f0d67be50179af9676209e47eadd7e", checked := Tryd.checked }
namespace Rows
def none {H : Type} : Left H := { results := [], args := [] }

/- WHAT THE LISTED PACKAGE-LEVEL VARIABLES READ AS WHEN THE CALL BEGINS. Each datum BY PROGRAM (the guide's laid-datum.mjs) off the statement by which the dump's own 'gosem.cut.vars' lays the variable. In a bare row this is a premise. The card (YtgfmpdgdlmhmcaaDoorCards.lean) ties it to the program's text. -/
def laid_unicode_utf8_acceptRanges {H : Type} : DataW H := .agg [.agg [.lit (.int .u8 128), .lit (.int .u8 191)], .agg [.lit (.int .u8 160), .lit (.int .u8 191)], .agg [.lit (.int .u8 128), .lit (.int .u8 159)], .agg [.lit (.int .u8 144), .lit (.int .u8 191)], .agg [.lit (.int .u8 128), .lit (.int .u8 143)], .agg [.lit (.int .u8 0), .lit (.int .u8 0)], .agg [.lit (.int .u8 0), .lit (.int .u8 0)], .agg [.lit (.int .u8 0), .lit (.int .u8 0)], .agg [.lit (.int .u8 0), .lit (.int .u8 0)], .agg [.lit (.int .u8 0), .lit (.int .u8 0)], .agg [.lit (.int .u8 0), .lit (.int .u8 0)], .agg [.lit (.int .u8 0), .lit (.int .u8 0)], .agg [.lit (.int .u8 0), .lit (.int .u8 0)], .agg [.lit (.int .u8 0), .lit (.int .u8 0)], .agg [.lit (.int .u8 0), .lit (.int .u8 0)], .agg [.lit (.int .u8 0), .lit (.int .u8 0)]]
/-- One of Go's own tables, pinned by name: the form's constant. -/
def laid_unicode_utf8_first : DataW Unit := Go.Pinned.utf8First

/-- 'reedpenlaw05.RulesRight': WHATEVER THE INPUT: true; the input reads as it did. -/
def rulesRightSpec : ChangeSpec := { name := "rulesRight", fn := fun _ => fun
  | [d] => { results := [.lit (.bool true)], args := [d] }
  | _ => none }
def rulesRightRow : OpenClaim := { program := "ytgfmpdgdlmhmcaadoor", sum := "39c215bae226cba94c2f600880308bde98f0d67be50179af9676209e47eadd7e", func := "reedpen/reedpenlaw05.RulesRight", spec := "rulesRight", inPlace := ["internal/bytealg.CountString", "internal/bytealg.IndexByteString", "internal/bytealg.IndexString"], unfollowed := true, recurses := true, named := ["internal/bytealg.MaxLen", "unicode/utf8.first", "unicode/utf8.acceptRanges"], loops := true, apart := false, laid := [("unicode/utf8.acceptRanges", laid_unicode_utf8_acceptRanges), ("unicode/utf8.first", laid_unicode_utf8_first)] }
def RulesRightSaid : Prop := rulesRightRow.holds Tryd.pinned (OpenSpec.ofChange rulesRightSpec)

/-- ITS FALSE NEIGHBOUR: 'it returns false'. Refute it at one input. -/
def rulesRightWrong : ChangeSpec := { name := "rulesRight", fn := fun _ => fun
  | [d] => { results := [.lit (.bool false)], args := [d] }
  | _ => none }
def RulesRightWrongFalsely : Prop := rulesRightRow.holds Tryd.pinned (OpenSpec.ofChange rulesRightWrong)

/-- 'reedpenlaw05.RulesLetters': WHATEVER THE INPUT: true; the input reads as it did. -/
def rulesLettersSpec : ChangeSpec := { name := "rulesLetters", fn := fun _ => fun
  | [d1, d2, d3] => { results := [.lit (.bool true)], args := [d1, d2, d3] }
  | _ => none }
def rulesLettersRow : OpenClaim := { program := "ytgfmpdgdlmhmcaadoor", sum := "39c215bae226cba94c2f600880308bde98f0d67be50179af9676209e47eadd7e", func := "reedpen/reedpenlaw05.RulesLetters", spec := "rulesLetters", inPlace := ["internal/bytealg.CountString", "internal/bytealg.IndexByteString", "internal/bytealg.IndexString"], unfollowed := true, recurses := true, named := ["internal/bytealg.MaxLen", "unicode/utf8.first", "unicode/utf8.acceptRanges"], apart := false, laid := [("unicode/utf8.acceptRanges", laid_unicode_utf8_acceptRanges), ("unicode/utf8.first", laid_unicode_utf8_first)] }
def RulesLettersSaid : Prop := rulesLettersRow.holds Tryd.pinned (OpenSpec.ofChange rulesLettersSpec)

/-- ITS FALSE NEIGHBOUR: 'it returns false'. Refute it at one input. -/
def rulesLettersWrong : ChangeSpec := { name := "rulesLetters", fn := fun _ => fun
  | [d1, d2, d3] => { results := [.lit (.bool false)], args := [d1, d2, d3] }
  | _ => none }
def RulesLettersWrongFalsely : Prop := rulesLettersRow.holds Tryd.pinned (OpenSpec.ofChange rulesLettersWrong)

/-- 'reedpenlaw05.RulesMeet': WHATEVER THE INPUT: true; the input reads as it did. -/
def rulesMeetSpec : ChangeSpec := { name := "rulesMeet", fn := fun _ => fun
  | [d1, d2] => { results := [.lit (.bool true)], args := [d1, d2] }
  | _ => none }
def rulesMeetRow : OpenClaim := { program := "ytgfmpdgdlmhmcaadoor", sum := "39c215bae226cba94c2f600880308bde98f0d67be50179af9676209e47eadd7e", func := "reedpen/reedpenlaw05.RulesMeet", spec := "rulesMeet", inPlace := ["internal/bytealg.CountString", "internal/bytealg.IndexByteString", "internal/bytealg.IndexString"], unfollowed := true, recurses := true, named := ["internal/bytealg.MaxLen", "unicode/utf8.first", "unicode/utf8.acceptRanges"], apart := false, laid := [("unicode/utf8.acceptRanges", laid_unicode_utf8_acceptRanges), ("unicode/utf8.first", laid_unicode_utf8_first)] }
def RulesMeetSaid : Prop := rulesMeetRow.holds Tryd.pinned (OpenSpec.ofChange rulesMeetSpec)

/-- ITS FALSE NEIGHBOUR: 'it returns false'. Refute it at one input. -/
def rulesMeetWrong : ChangeSpec := { name := "rulesMeet", fn := fun _ => fun
  | [d1, d2] => { results := [.lit (.bool false)], args := [d1, d2] }
  | _ => none }
def RulesMeetWrongFalsely : Prop := rulesMeetRow.holds Tryd.pinned (OpenSpec.ofChange rulesMeetWrong)

/-- 'reedpenlaw05.RulesPrefix': WHATEVER THE INPUT: true; the input reads as it did. -/
def rulesPrefixSpec : ChangeSpec := { name := "rulesPrefix", fn := fun _ => fun
  | [d1, d2] => { results := [.lit (.bool true)], args := [d1, d2] }
  | _ => none }
def rulesPrefixRow : OpenClaim := { program := "ytgfmpdgdlmhmcaadoor", sum := "39c215bae226cba94c2f600880308bde98f0d67be50179af9676209e47eadd7e", func := "reedpen/reedpenlaw05.RulesPrefix", spec := "rulesPrefix", inPlace := ["internal/bytealg.CountString", "internal/bytealg.IndexByteString", "internal/bytealg.IndexString"], unfollowed := true, recurses := true, named := ["internal/bytealg.MaxLen", "unicode/utf8.first", "unicode/utf8.acceptRanges"], loops := true, apart := false, laid := [("unicode/utf8.acceptRanges", laid_unicode_utf8_acceptRanges), ("unicode/utf8.first", laid_unicode_utf8_first)] }
def RulesPrefixSaid : Prop := rulesPrefixRow.holds Tryd.pinned (OpenSpec.ofChange rulesPrefixSpec)

/-- ITS FALSE NEIGHBOUR: 'it returns false'. Refute it at one input. -/
def rulesPrefixWrong : ChangeSpec := { name := "rulesPrefix", fn := fun _ => fun
  | [d1, d2] => { results := [.lit (.bool false)], args := [d1, d2] }
  | _ => none }
def RulesPrefixWrongFalsely : Prop := rulesPrefixRow.holds Tryd.pinned (OpenSpec.ofChange rulesPrefixWrong)

/- THE SECOND FORM. 'bulk': how many values and letters a reading holds, each counted each time it is reached (what is shared counts as often as it is met; a slice's spare places count too). A statement '..UptoSaid' is the law's where the arguments, and the package variables that the reading takes, are together of bulk at most 1048576: NARROWER than '..Said'. Prove '..Said' where nothing that the law and all that it calls make is longer than what came in: it says more and counts as full. Else prove '..UptoSaid'. A law counts once. -/
mutual
def uptoBulk {H : Type} : DataW H → Nat
  | .lit (.string bytes) => bytes.length + 1
  | .lit _ => 1
  | .nil => 1
  | .ptr d => uptoBulk d + 1
  | .slice elems spare => uptoBulkAll elems + uptoBulkAll spare + 1
  | .agg parts => uptoBulkAll parts + 1
  | .iface _ d => uptoBulk d + 1
  | .map entries => uptoBulkEntries entries + 1
  | .held _ => 1
def uptoBulkAll {H : Type} : List (DataW H) → Nat
  | [] => 0
  | d :: r => uptoBulk d + uptoBulkAll r
def uptoBulkEntries {H : Type} : List (Lit × DataW H) → Nat
  | [] => 0
  | x :: r => uptoBulkEntry x + uptoBulkEntries r
def uptoBulkEntry {H : Type} : Lit × DataW H → Nat
  | (.string bytes, d) => bytes.length + uptoBulk d + 1
  | (_, d) => uptoBulk d + 1
 end
def uptoSmall : (H : Type) → List (DataW H) → Bool := fun _ ds => decide (uptoBulkAll ds ≤ 1048576)
def OpenSpec.upto (s : _root_.Go.ChangeSpec) : _root_.Go.OpenSpec := { _root_.Go.OpenSpec.ofChange s with cond := some uptoSmall }

/-- 'reedpenlaw05.RulesRight', WHERE WHAT IT READS IS OF BULK AT MOST 1048576: true; the input reads as it did. -/
def rulesRightUptoRow : OpenClaim := { program := "ytgfmpdgdlmhmcaadoor", sum := "39c215bae226cba94c2f600880308bde98f0d67be50179af9676209e47eadd7e", func := "reedpen/reedpenlaw05.RulesRight", spec := "rulesRight", inPlace := ["internal/bytealg.CountString", "internal/bytealg.IndexByteString", "internal/bytealg.IndexString"], unfollowed := true, recurses := true, named := ["internal/bytealg.MaxLen", "unicode/utf8.first", "unicode/utf8.acceptRanges"], loops := true, apart := false, laid := [("unicode/utf8.acceptRanges", laid_unicode_utf8_acceptRanges), ("unicode/utf8.first", laid_unicode_utf8_first)], narrowed := true }
def RulesRightUptoSaid : Prop := rulesRightUptoRow.holds Tryd.pinned (OpenSpec.upto rulesRightSpec)

/-- 'reedpenlaw05.RulesLetters', WHERE WHAT IT READS IS OF BULK AT MOST 1048576: true; the input reads as it did. -/
def rulesLettersUptoRow : OpenClaim := { program := "ytgfmpdgdlmhmcaadoor", sum := "39c215bae226cba94c2f600880308bde98f0d67be50179af9676209e47eadd7e", func := "reedpen/reedpenlaw05.RulesLetters", spec := "rulesLetters", inPlace := ["internal/bytealg.CountString", "internal/bytealg.IndexByteString", "internal/bytealg.IndexString"], unfollowed := true, recurses := true, named := ["internal/bytealg.MaxLen", "unicode/utf8.first", "unicode/utf8.acceptRanges"], apart := false, laid := [("unicode/utf8.acceptRanges", laid_unicode_utf8_acceptRanges), ("unicode/utf8.first", laid_unicode_utf8_first)], narrowed := true }
def RulesLettersUptoSaid : Prop := rulesLettersUptoRow.holds Tryd.pinned (OpenSpec.upto rulesLettersSpec)

/-- 'reedpenlaw05.RulesMeet', WHERE WHAT IT READS IS OF BULK AT MOST 1048576: true; the input reads as it did. -/
def rulesMeetUptoRow : OpenClaim := { program := "ytgfmpdgdlmhmcaadoor", sum := "39c215bae226cba94c2f600880308bde98f0d67be50179af9676209e47eadd7e", func := "reedpen/reedpenlaw05.RulesMeet", spec := "rulesMeet", inPlace := ["internal/bytealg.CountString", "internal/bytealg.IndexByteString", "internal/bytealg.IndexString"], unfollowed := true, recurses := true, named := ["internal/bytealg.MaxLen", "unicode/utf8.first", "unicode/utf8.acceptRanges"], apart := false, laid := [("unicode/utf8.acceptRanges", laid_unicode_utf8_acceptRanges), ("unicode/utf8.first", laid_unicode_utf8_first)], narrowed := true }
def RulesMeetUptoSaid : Prop := rulesMeetUptoRow.holds Tryd.pinned (OpenSpec.upto rulesMeetSpec)

/-- 'reedpenlaw05.RulesPrefix', WHERE WHAT IT READS IS OF BULK AT MOST 1048576: true; the input reads as it did. -/
def rulesPrefixUptoRow : OpenClaim := { program := "ytgfmpdgdlmhmcaadoor", sum := "39c215bae226cba94c2f600880308bde98f0d67be50179af9676209e47eadd7e", func := "reedpen/reedpenlaw05.RulesPrefix", spec := "rulesPrefix", inPlace := ["internal/bytealg.CountString", "internal/bytealg.IndexByteString", "internal/bytealg.IndexString"], unfollowed := true, recurses := true, named := ["internal/bytealg.MaxLen", "unicode/utf8.first", "unicode/utf8.acceptRanges"], loops := true, apart := false, laid := [("unicode/utf8.acceptRanges", laid_unicode_utf8_acceptRanges), ("unicode/utf8.first", laid_unicode_utf8_first)], narrowed := true }
def RulesPrefixUptoSaid : Prop := rulesPrefixUptoRow.holds Tryd.pinned (OpenSpec.upto rulesPrefixSpec)

end Rows
end Go.Proofs.YtgfmpdgdlmhmcaaDoor
