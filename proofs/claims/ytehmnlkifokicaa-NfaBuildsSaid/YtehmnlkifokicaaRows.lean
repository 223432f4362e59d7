/-
  NARROWER THAN 'FOR EVERY INPUT', by the rows' own cells (each row's printed sentence says how): NfaBuilds: loops.
  DERIVED. THE GIVEN ROWS OF THIS SEAT. 1 by the template 'for every input the law returns true; each argument reads behind the call as it read before'; 0 by the template 'total and deterministic' (their statements: YtehmnlkifokicaaTotals.lean).
  GIVEN WITH THE SEED: the statements are not yours to turn. If you find one false, say at which input.
  Laid BY PROGRAM, IN A SANDBOX (cutbox-rows.mjs): the forced cells as the released guide's own fill.sh prints them over the translation 74071b310f735a3f… (all of the seat's roots in one cut). By AI agents, Wed Nov 11 2026. No macro, syntax, notation, axiom, sorry.
-/
import Derived.Test.YtehmnlkifokicaaChecked
import GoSem.Claim
import GoSem.ClaimJoined
import GoSem.ClaimMapViews
import Derived.JoinedTies
import Derived.KernelRfl
namespace Go.Proofs.Ytehmnlkifokicaa
/- THE CELL 'sum', in the pinned program and in every row, IS THE sha256 OF THE DUMP (.gsa) THAT YtehmnlkifokicaaProg.lean LOADS. Nothing in Lean hashes anything: it is a label: what it is worth is what the hold of that sum in a sandbox is worth. -/
noncomputable def Try.pinned : Pinned := { name := "ytehmnlkifokicaa", sum := "74071b310f735a3f31d7f56ae90470b5e0f395b5cbd0b890b4ea87a4fcc6d54c", checked := Try.checked }
namespace Rows
def none {H : Type} : Left H := { results := [], args := [] }

/-- 'reedpenlaw06.NfaBuilds': WHATEVER THE INPUT: true; the input reads as it did. -/
def nfaBuildsSpec : ChangeSpec := { name := "nfaBuilds", fn := fun _ => fun
  | [d] => { results := [.lit (.bool true)], args := [d] }
  | _ => none }
def nfaBuildsRow : OpenClaim := { program := "ytehmnlkifokicaa", sum := "74071b310f735a3f31d7f56ae90470b5e0f395b5cbd0b890b4ea87a4fcc6d54c", func := "reedpen/reedpenlaw06.NfaBuilds", spec := "nfaBuilds", unfollowed := true, recurses := true, loops := true, apart := false }
def NfaBuildsSaid : Prop := nfaBuildsRow.holds Try.pinned (OpenSpec.ofChange nfaBuildsSpec)

/-- ITS FALSE NEIGHBOUR: 'it returns false'. Refute it at one input. -/
def nfaBuildsWrong : ChangeSpec := { name := "nfaBuilds", fn := fun _ => fun
  | [d] => { results := [.lit (.bool false)], args := [d] }
  | _ => none }
def NfaBuildsWrongFalsely : Prop := nfaBuildsRow.holds Try.pinned (OpenSpec.ofChange nfaBuildsWrong)

/- THE SECOND FORM. 'bulk': how many values and letters a reading holds, each counted each time it is reached (what is shared counts as often as it is met; a slice's spare places count too). A statement '..UptoSaid' is the law's where the arguments, and the package variables that the reading takes, are together of bulk at most 1048576: NARROWER than '..Said'. Prove '..Said' where nothing that the law and all that it calls make is longer than what came in: it says more and counts as full. Else prove '..UptoSaid'. A law counts once. -/
mutual
def uptoBulk {H : Type} : DataW H → Nat
  | .lit (.string bytes) => bytes.length + 1
  | .lit _ => 1
  | .nil => 1
  | .ptr d => uptoBulk d + 1
  | .slice elems spare => uptoBulkAll elems + uptoBulkAll spare + 1
  | .agg parts => uptoBulkAll parts + 1
  | .iface _ d => uptoBulk d + 1
  | .map entries => uptoBulkEntries entries + 1
  | .held _ => 1
def uptoBulkAll {H : Type} : List (DataW H) → Nat
  | [] => 0
  | d :: r => uptoBulk d + uptoBulkAll r
def uptoBulkEntries {H : Type} : List (Lit × DataW H) → Nat
  | [] => 0
  | x :: r => uptoBulkEntry x + uptoBulkEntries r
def uptoBulkEntry {H : Type} : Lit × DataW H → Nat
  | (.string bytes, d) => bytes.length + uptoBulk d + 1
  | (_, d) => uptoBulk d + 1
 end
def uptoSmall : (H : Type) → List (DataW H) → Bool := fun _ ds => decide (uptoBulkAll ds ≤ 1048576)
def OpenSpec.upto (s : _root_.Go.ChangeSpec) : _root_.Go.OpenSpec := { _root_.Go.OpenSpec.ofChange s with cond := some uptoSmall }

/-- 'reedpenlaw06.NfaBuilds', WHERE WHAT IT READS IS OF BULK AT MOST 1048576: true; the input reads as it did. -/
def nfaBuildsUptoRow : OpenClaim := { program := "ytehmnlkifokicaa", sum := "74071b310f735a3f31d7f56ae90470b5e0f395b5cbd0b890b4ea87a4fcc6d54c", func := "reedpen/reedpenlaw06.NfaBuilds", spec := "nfaBuilds", unfollowed := true, recurses := true, loops := true, apart := false, narrowed := true }
def NfaBuildsUptoSaid : Prop := nfaBuildsUptoRow.holds Try.pinned (OpenSpec.upto nfaBuildsSpec)

end Rows
end Go.Proofs.Ytehmnlkifokicaa
