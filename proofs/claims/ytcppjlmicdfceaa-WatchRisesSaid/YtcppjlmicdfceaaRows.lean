/-
  No cell of these rows narrows 'for every input' (looked for: loops, veiled, ifaces, maps, wideKeys, modest, calm, conditions, laid).
  DERIVED. THE GIVEN ROWS OF THIS SEAT. 4 by the template 'for every input the law returns true; each argument reads behind the call as it read before'; 0 by the template 'total and deterministic' (their statements: YtcppjlmicdfceaaTotals.lean).
  GIVEN WITH THE SEED: the statements are not yours to turn. If you find one false, say at which input.
  Laid BY PROGRAM, IN A SANDBOX (cutbox-rows.mjs): the forced cells as the released guide's own fill.sh prints them over the translation d0dc82d0a17bc2b1… (all of the seat's roots in one cut). By AI agents, Wed Nov 11 2026. No macro, syntax, notation, axiom, sorry.
-/
import Derived.Test.YtcppjlmicdfceaaChecked
import GoSem.Claim
import GoSem.ClaimJoined
import GoSem.ClaimMapViews
import Derived.JoinedTies
import Derived.KernelRfl
namespace Go.Proofs.Ytcppjlmicdfceaa
/- THE CELL 'sum', in the pinned program and in every row, IS THE sha256 OF THE DUMP (.gsa) THAT YtcppjlmicdfceaaProg.lean LOADS. Nothing in Lean hashes anything: it is a label: what it is worth is what the hold of that sum in a sandbox is worth. -/
noncomputable def Try.pinned : Pinned := { name := "ytcppjlmicdfceaa", sum := "d0dc82d0a17bc2b1fc0a6cd16ce8537ee32b23c825aab3ecab7e0c13d579d6fe", checked := Try.checked }
namespace Rows
def none {H : Type} : Left H := { results := [], args := [] }

/-- 'reedpenlaw30.WatchChecks': WHATEVER THE INPUT: true; the input reads as it did. -/
def watchChecksSpec : ChangeSpec := { name := "watchChecks", fn := fun _ => fun
  | [d1, d2, d3] => { results := [.lit (.bool true)], args := [d1, d2, d3] }
  | _ => none }
def watchChecksRow : OpenClaim := { program := "ytcppjlmicdfceaa", sum := "d0dc82d0a17bc2b1fc0a6cd16ce8537ee32b23c825aab3ecab7e0c13d579d6fe", func := "reedpen/reedpenlaw30.WatchChecks", spec := "watchChecks", unfollowed := true, recurses := true, apart := false }
def WatchChecksSaid : Prop := watchChecksRow.holds Try.pinned (OpenSpec.ofChange watchChecksSpec)

/-- ITS FALSE NEIGHBOUR: 'it returns false'. Refute it at one input. -/
def watchChecksWrong : ChangeSpec := { name := "watchChecks", fn := fun _ => fun
  | [d1, d2, d3] => { results := [.lit (.bool false)], args := [d1, d2, d3] }
  | _ => none }
def WatchChecksWrongFalsely : Prop := watchChecksRow.holds Try.pinned (OpenSpec.ofChange watchChecksWrong)

/-- 'reedpenlaw30.WatchClusters': WHATEVER THE INPUT: true; the input reads as it did. -/
def watchClustersSpec : ChangeSpec := { name := "watchClusters", fn := fun _ => fun
  | [d1, d2] => { results := [.lit (.bool true)], args := [d1, d2] }
  | _ => none }
def watchClustersRow : OpenClaim := { program := "ytcppjlmicdfceaa", sum := "d0dc82d0a17bc2b1fc0a6cd16ce8537ee32b23c825aab3ecab7e0c13d579d6fe", func := "reedpen/reedpenlaw30.WatchClusters", spec := "watchClusters", unfollowed := true, recurses := true, apart := false }
def WatchClustersSaid : Prop := watchClustersRow.holds Try.pinned (OpenSpec.ofChange watchClustersSpec)

/-- ITS FALSE NEIGHBOUR: 'it returns false'. Refute it at one input. -/
def watchClustersWrong : ChangeSpec := { name := "watchClusters", fn := fun _ => fun
  | [d1, d2] => { results := [.lit (.bool false)], args := [d1, d2] }
  | _ => none }
def WatchClustersWrongFalsely : Prop := watchClustersRow.holds Try.pinned (OpenSpec.ofChange watchClustersWrong)

/-- 'reedpenlaw30.WatchAll': WHATEVER THE INPUT: true; the input reads as it did. -/
def watchAllSpec : ChangeSpec := { name := "watchAll", fn := fun _ => fun
  | [d1, d2] => { results := [.lit (.bool true)], args := [d1, d2] }
  | _ => none }
def watchAllRow : OpenClaim := { program := "ytcppjlmicdfceaa", sum := "d0dc82d0a17bc2b1fc0a6cd16ce8537ee32b23c825aab3ecab7e0c13d579d6fe", func := "reedpen/reedpenlaw30.WatchAll", spec := "watchAll", unfollowed := true, recurses := true, apart := false }
def WatchAllSaid : Prop := watchAllRow.holds Try.pinned (OpenSpec.ofChange watchAllSpec)

/-- ITS FALSE NEIGHBOUR: 'it returns false'. Refute it at one input. -/
def watchAllWrong : ChangeSpec := { name := "watchAll", fn := fun _ => fun
  | [d1, d2] => { results := [.lit (.bool false)], args := [d1, d2] }
  | _ => none }
def WatchAllWrongFalsely : Prop := watchAllRow.holds Try.pinned (OpenSpec.ofChange watchAllWrong)

/-- 'reedpenlaw30.WatchRises': WHATEVER THE INPUT: true; the input reads as it did. -/
def watchRisesSpec : ChangeSpec := { name := "watchRises", fn := fun _ => fun
  | [d1, d2] => { results := [.lit (.bool true)], args := [d1, d2] }
  | _ => none }
def watchRisesRow : OpenClaim := { program := "ytcppjlmicdfceaa", sum := "d0dc82d0a17bc2b1fc0a6cd16ce8537ee32b23c825aab3ecab7e0c13d579d6fe", func := "reedpen/reedpenlaw30.WatchRises", spec := "watchRises", unfollowed := true, recurses := true, apart := false }
def WatchRisesSaid : Prop := watchRisesRow.holds Try.pinned (OpenSpec.ofChange watchRisesSpec)

/-- ITS FALSE NEIGHBOUR: 'it returns false'. Refute it at one input. -/
def watchRisesWrong : ChangeSpec := { name := "watchRises", fn := fun _ => fun
  | [d1, d2] => { results := [.lit (.bool false)], args := [d1, d2] }
  | _ => none }
def WatchRisesWrongFalsely : Prop := watchRisesRow.holds Try.pinned (OpenSpec.ofChange watchRisesWrong)

/- THE SECOND FORM. 'bulk': how many values and letters a reading holds, each counted each time it is reached (what is shared counts as often as it is met; a slice's spare places count too). A statement '..UptoSaid' is the law's where the arguments, and the package variables that the reading takes, are together of bulk at most 1048576: NARROWER than '..Said'. Prove '..Said' where nothing that the law and all that it calls make is longer than what came in: it says more and counts as full. Else prove '..UptoSaid'. A law counts once. -/
mutual
def uptoBulk {H : Type} : DataW H → Nat
  | .lit (.string bytes) => bytes.length + 1
  | .lit _ => 1
  | .nil => 1
  | .ptr d => uptoBulk d + 1
  | .slice elems spare => uptoBulkAll elems + uptoBulkAll spare + 1
  | .agg parts => uptoBulkAll parts + 1
  | .iface _ d => uptoBulk d + 1
  | .map entries => uptoBulkEntries entries + 1
  | .held _ => 1
def uptoBulkAll {H : Type} : List (DataW H) → Nat
  | [] => 0
  | d :: r => uptoBulk d + uptoBulkAll r
def uptoBulkEntries {H : Type} : List (Lit × DataW H) → Nat
  | [] => 0
  | x :: r => uptoBulkEntry x + uptoBulkEntries r
def uptoBulkEntry {H : Type} : Lit × DataW H → Nat
  | (.string bytes, d) => bytes.length + uptoBulk d + 1
  | (_, d) => uptoBulk d + 1
 end
def uptoSmall : (H : Type) → List (DataW H) → Bool := fun _ ds => decide (uptoBulkAll ds ≤ 1048576)
def OpenSpec.upto (s : _root_.Go.ChangeSpec) : _root_.Go.OpenSpec := { _root_.Go.OpenSpec.ofChange s with cond := some uptoSmall }

/-- 'reedpenlaw30.WatchChecks', WHERE WHAT IT READS IS OF BULK AT MOST 1048576: true; the input reads as it did. -/
def watchChecksUptoRow : OpenClaim := { program := "ytcppjlmicdfceaa", sum := "d0dc82d0a17bc2b1fc0a6cd16ce8537ee32b23c825aab3ecab7e0c13d579d6fe", func := "reedpen/reedpenlaw30.WatchChecks", spec := "watchChecks", unfollowed := true, recurses := true, apart := false, narrowed := true }
def WatchChecksUptoSaid : Prop := watchChecksUptoRow.holds Try.pinned (OpenSpec.upto watchChecksSpec)

/-- 'reedpenlaw30.WatchClusters', WHERE WHAT IT READS IS OF BULK AT MOST 1048576: true; the input reads as it did. -/
def watchClustersUptoRow : OpenClaim := { program := "ytcppjlmicdfceaa", sum := "d0dc82d0a17bc2b1fc0a6cd16ce8537ee32b23c825aab3ecab7e0c13d579d6fe", func := "reedpen/reedpenlaw30.WatchClusters", spec := "watchClusters", unfollowed := true, recurses := true, apart := false, narrowed := true }
def WatchClustersUptoSaid : Prop := watchClustersUptoRow.holds Try.pinned (OpenSpec.upto watchClustersSpec)

/-- 'reedpenlaw30.WatchAll', WHERE WHAT IT READS IS OF BULK AT MOST 1048576: true; the input reads as it did. -/
def watchAllUptoRow : OpenClaim := { program := "ytcppjlmicdfceaa", sum := "d0dc82d0a17bc2b1fc0a6cd16ce8537ee32b23c825aab3ecab7e0c13d579d6fe", func := "reedpen/reedpenlaw30.WatchAll", spec := "watchAll", unfollowed := true, recurses := true, apart := false, narrowed := true }
def WatchAllUptoSaid : Prop := watchAllUptoRow.holds Try.pinned (OpenSpec.upto watchAllSpec)

/-- 'reedpenlaw30.WatchRises', WHERE WHAT IT READS IS OF BULK AT MOST 1048576: true; the input reads as it did. -/
def watchRisesUptoRow : OpenClaim := { program := "ytcppjlmicdfceaa", sum := "d0dc82d0a17bc2b1fc0a6cd16ce8537ee32b23c825aab3ecab7e0c13d579d6fe", func := "reedpen/reedpenlaw30.WatchRises", spec := "watchRises", unfollowed := true, recurses := true, apart := false, narrowed := true }
def WatchRisesUptoSaid : Prop := watchRisesUptoRow.holds Try.pinned (OpenSpec.upto watchRisesSpec)

end Rows
end Go.Proofs.Ytcppjlmicdfceaa
