/-
  NARROWER THAN 'FOR EVERY INPUT', by the rows' own cells (each row's printed sentence says how): NfaBuilds: loops · NfaMatches: loops · NfaCloses: loops.
  DERIVED. THE GIVEN ROWS OF THIS SEAT. 4 by the template 'for every input the law returns true; each argument reads behind the call as it read before'; 0 by the template 'total and deterministic' (their statements: YtcacifbfoifojaaTotals.lean).
  GIVEN WITH THE SEED: the statements are not yours to turn. If you find one false, say at which input.
  Laid BY PROGRAM, IN A SANDBOX (cutbox-rows.mjs): the forced cells as the released guide's own fill.sh prints them over the translation 7078f075f87fc956… (all of the seat's roots in one cut). By AI agents, Wed Nov 11 2026. No macro, syntax, notation, axiom, sorry.
-/
import Derived.Test.YtcacifbfoifojaaChecked
import GoSem.Claim
import GoSem.ClaimJoined
import GoSem.ClaimMapViews
import Derived.JoinedTies
import Derived.KernelRfl
namespace Go.Proofs.Ytcacifbfoifojaa
/- THE CELL 'sum', in the pinned program and in every row, IS THE sha256 OF THE DUMP (.gsa) THAT YtcacifbfoifojaaProg.lean LOADS. Nothing in Lean hashes anything: it is a label: what it is worth is what the hold of that sum in a sandbox is worth. -/
noncomputable def Try.pinned : Pinned := { name := "ytcacifbfoifojaa", sum := "7078f075f87fc95628140fd4d9b6a8fb46937b8e8b50bed05a7a083246387b53", checked := Try.checked }
namespace Rows
def none {H : Type} : Left H := { results := [], args := [] }

/-- 'reedpenlaw06.NfaBuilds': WHATEVER THE INPUT: true; the input reads as it did. -/
def nfaBuildsSpec : ChangeSpec := { name := "nfaBuilds", fn := fun _ => fun
  | [d] => { results := [.lit (.bool true)], args := [d] }
  | _ => none }
def nfaBuildsRow : OpenClaim := { program := "ytcacifbfoifojaa", sum := "7078f075f87fc95628140fd4d9b6a8fb46937b8e8b50bed05a7a083246387b53", func := "reedpen/reedpenlaw06.NfaBuilds", spec := "nfaBuilds", unfollowed := true, recurses := true, loops := true, apart := false }
def NfaBuildsSaid : Prop := nfaBuildsRow.holds Try.pinned (OpenSpec.ofChange nfaBuildsSpec)

/-- ITS FALSE NEIGHBOUR: 'it returns false'. Refute it at one input. -/
def nfaBuildsWrong : ChangeSpec := { name := "nfaBuilds", fn := fun _ => fun
  | [d] => { results := [.lit (.bool false)], args := [d] }
  | _ => none }
def NfaBuildsWrongFalsely : Prop := nfaBuildsRow.holds Try.pinned (OpenSpec.ofChange nfaBuildsWrong)

/-- 'reedpenlaw06.NfaWalks': WHATEVER THE INPUT: true; the input reads as it did. -/
def nfaWalksSpec : ChangeSpec := { name := "nfaWalks", fn := fun _ => fun
  | [d1, d2, d3, d4] => { results := [.lit (.bool true)], args := [d1, d2, d3, d4] }
  | _ => none }
def nfaWalksRow : OpenClaim := { program := "ytcacifbfoifojaa", sum := "7078f075f87fc95628140fd4d9b6a8fb46937b8e8b50bed05a7a083246387b53", func := "reedpen/reedpenlaw06.NfaWalks", spec := "nfaWalks", unfollowed := true, recurses := true, apart := false }
def NfaWalksSaid : Prop := nfaWalksRow.holds Try.pinned (OpenSpec.ofChange nfaWalksSpec)

/-- ITS FALSE NEIGHBOUR: 'it returns false'. Refute it at one input. -/
def nfaWalksWrong : ChangeSpec := { name := "nfaWalks", fn := fun _ => fun
  | [d1, d2, d3, d4] => { results := [.lit (.bool false)], args := [d1, d2, d3, d4] }
  | _ => none }
def NfaWalksWrongFalsely : Prop := nfaWalksRow.holds Try.pinned (OpenSpec.ofChange nfaWalksWrong)

/-- 'reedpenlaw06.NfaMatches': WHATEVER THE INPUT: true; the input reads as it did. -/
def nfaMatchesSpec : ChangeSpec := { name := "nfaMatches", fn := fun _ => fun
  | [d1, d2] => { results := [.lit (.bool true)], args := [d1, d2] }
  | _ => none }
def nfaMatchesRow : OpenClaim := { program := "ytcacifbfoifojaa", sum := "7078f075f87fc95628140fd4d9b6a8fb46937b8e8b50bed05a7a083246387b53", func := "reedpen/reedpenlaw06.NfaMatches", spec := "nfaMatches", unfollowed := true, recurses := true, loops := true, apart := false }
def NfaMatchesSaid : Prop := nfaMatchesRow.holds Try.pinned (OpenSpec.ofChange nfaMatchesSpec)

/-- ITS FALSE NEIGHBOUR: 'it returns false'. Refute it at one input. -/
def nfaMatchesWrong : ChangeSpec := { name := "nfaMatches", fn := fun _ => fun
  | [d1, d2] => { results := [.lit (.bool false)], args := [d1, d2] }
  | _ => none }
def NfaMatchesWrongFalsely : Prop := nfaMatchesRow.holds Try.pinned (OpenSpec.ofChange nfaMatchesWrong)

/-- 'reedpenlaw06.NfaCloses': WHATEVER THE INPUT: true; the input reads as it did. -/
def nfaClosesSpec : ChangeSpec := { name := "nfaCloses", fn := fun _ => fun
  | [d1, d2] => { results := [.lit (.bool true)], args := [d1, d2] }
  | _ => none }
def nfaClosesRow : OpenClaim := { program := "ytcacifbfoifojaa", sum := "7078f075f87fc95628140fd4d9b6a8fb46937b8e8b50bed05a7a083246387b53", func := "reedpen/reedpenlaw06.NfaCloses", spec := "nfaCloses", unfollowed := true, recurses := true, loops := true, apart := false }
def NfaClosesSaid : Prop := nfaClosesRow.holds Try.pinned (OpenSpec.ofChange nfaClosesSpec)

/-- ITS FALSE NEIGHBOUR: 'it returns false'. Refute it at one input. -/
def nfaClosesWrong : ChangeSpec := { name := "nfaCloses", fn := fun _ => fun
  | [d1, d2] => { results := [.lit (.bool false)], args := [d1, d2] }
  | _ => none }
def NfaClosesWrongFalsely : Prop := nfaClosesRow.holds Try.pinned (OpenSpec.ofChange nfaClosesWrong)

/- THE SECOND FORM. 'bulk': how many values and letters a reading holds, each counted each time it is reached (what is shared counts as often as it is met; a slice's spare places count too). A statement '..UptoSaid' is the law's where the arguments, and the package variables that the reading takes, are together of bulk at most 1048576: NARROWER than '..Said'. Prove '..Said' where nothing that the law and all that it calls make is longer than what came in: it says more and counts as full. Else prove '..UptoSaid'. A law counts once. -/
mutual
def uptoBulk {H : Type} : DataW H → Nat
  | .lit (.string bytes) => bytes.length + 1
  | .lit _ => 1
  | .nil => 1
  | .ptr d => uptoBulk d + 1
  | .slice elems spare => uptoBulkAll elems + uptoBulkAll spare + 1
  | .agg parts => uptoBulkAll parts + 1
  | .iface _ d => uptoBulk d + 1
  | .map entries => uptoBulkEntries entries + 1
  | .held _ => 1
def uptoBulkAll {H : Type} : List (DataW H) → Nat
  | [] => 0
  | d :: r => uptoBulk d + uptoBulkAll r
def uptoBulkEntries {H : Type} : List (Lit × DataW H) → Nat
  | [] => 0
  | x :: r => uptoBulkEntry x + uptoBulkEntries r
def uptoBulkEntry {H : Type} : Lit × DataW H → Nat
  | (.string bytes, d) => bytes.length + uptoBulk d + 1
  | (_, d) => uptoBulk d + 1
 end
def uptoSmall : (H : Type) → List (DataW H) → Bool := fun _ ds => decide (uptoBulkAll ds ≤ 1048576)
def OpenSpec.upto (s : _root_.Go.ChangeSpec) : _root_.Go.OpenSpec := { _root_.Go.OpenSpec.ofChange s with cond := some uptoSmall }

/-- 'reedpenlaw06.NfaBuilds', WHERE WHAT IT READS IS OF BULK AT MOST 1048576: true; the input reads as it did. -/
def nfaBuildsUptoRow : OpenClaim := { program := "ytcacifbfoifojaa", sum := "7078f075f87fc95628140fd4d9b6a8fb46937b8e8b50bed05a7a083246387b53", func := "reedpen/reedpenlaw06.NfaBuilds", spec := "nfaBuilds", unfollowed := true, recurses := true, loops := true, apart := false, narrowed := true }
def NfaBuildsUptoSaid : Prop := nfaBuildsUptoRow.holds Try.pinned (OpenSpec.upto nfaBuildsSpec)

/-- 'reedpenlaw06.NfaWalks', WHERE WHAT IT READS IS OF BULK AT MOST 1048576: true; the input reads as it did. -/
def nfaWalksUptoRow : OpenClaim := { program := "ytcacifbfoifojaa", sum := "7078f075f87fc95628140fd4d9b6a8fb46937b8e8b50bed05a7a083246387b53", func := "reedpen/reedpenlaw06.NfaWalks", spec := "nfaWalks", unfollowed := true, recurses := true, apart := false, narrowed := true }
def NfaWalksUptoSaid : Prop := nfaWalksUptoRow.holds Try.pinned (OpenSpec.upto nfaWalksSpec)

/-- 'reedpenlaw06.NfaMatches', WHERE WHAT IT READS IS OF BULK AT MOST 1048576: true; the input reads as it did. -/
def nfaMatchesUptoRow : OpenClaim := { program := "ytcacifbfoifojaa", sum := "7078f075f87fc95628140fd4d9b6a8fb46937b8e8b50bed05a7a083246387b53", func := "reedpen/reedpenlaw06.NfaMatches", spec := "nfaMatches", unfollowed := true, recurses := true, loops := true, apart := false, narrowed := true }
def NfaMatchesUptoSaid : Prop := nfaMatchesUptoRow.holds Try.pinned (OpenSpec.upto nfaMatchesSpec)

/-- 'reedpenlaw06.NfaCloses', WHERE WHAT IT READS IS OF BULK AT MOST 1048576: true; the input reads as it did. -/
def nfaClosesUptoRow : OpenClaim := { program := "ytcacifbfoifojaa", sum := "7078f075f87fc95628140fd4d9b6a8fb46937b8e8b50bed05a7a083246387b53", func := "reedpen/reedpenlaw06.NfaCloses", spec := "nfaCloses", unfollowed := true, recurses := true, loops := true, apart := false, narrowed := true }
def NfaClosesUptoSaid : Prop := nfaClosesUptoRow.holds Try.pinned (OpenSpec.upto nfaClosesSpec)

end Rows
end Go.Proofs.Ytcacifbfoifojaa
