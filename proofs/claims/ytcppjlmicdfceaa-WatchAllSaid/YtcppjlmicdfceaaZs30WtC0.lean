/- The chapter on watching: what its laws are called with. -/
import Derived.Test.YtcppjlmicdfceaaZs30F
import Derived.Test.YtcppjlmicdfceaaZs30WtQ
import Derived.Test.YtcppjlmicdfceaaRows
import Derived.Test.YtcppjlmicdfceaaZzB3
set_option maxHeartbeats 4000000
set_option linter.unusedVariables false
set_option linter.unusedSimpArgs false
namespace Go.Proofs.Wt
open Go Vm Go.Proofs.Zs30
theorem ftOut : fieldTs Try.prog 36 = some [3, 3, 3, 3, 3, 3] := by kernel_rfl
theorem gls_of_typed {xs : List D} (h : TypedE Try.prog 36 xs) : ∃ l : List Gl, xs = l.map Gl.d1 := by
  refine typedE_agg (by kernel_rfl) h Gl.d1 fun cs hc => ?_
  have hf := typed_fields ftOut hc
  obtain ⟨a, r0, rfl, hf0⟩ := typedF_int un3 hf
  obtain ⟨b, r1, rfl, hf1⟩ := typedF_int un3 hf0
  obtain ⟨c, r2, rfl, hf2⟩ := typedF_int un3 hf1
  obtain ⟨d, r3, rfl, hf3⟩ := typedF_int un3 hf2
  obtain ⟨e, r4, rfl, hf4⟩ := typedF_int un3 hf3
  obtain ⟨f, r5, rfl, hf5⟩ := typedF_int un3 hf4
  cases typedF_nil hf5
  exact ⟨⟨a, b, c, d, e, f⟩, rfl⟩
theorem primA : PrimOk Try.prog A := fun f p h => by cases h
theorem run_of_yes {f : FuncId} {args : List D} (h : Yes f args) : ∃ k H', runF Try.prog A k f args [] = some (.ok (.bool true) H') := by
  obtain ⟨k, r, h1, h2⟩ := h
  cases r with
  | pan d H => exact h2.elim
  | ok d H => exact ⟨k, H, by rw [h1, show d = .bool true from h2]⟩
theorem lic {Ds : List D} (h : TypedA Try.prog [22, 3, 3] Ds) : ∃ (l : List Gl) (c i : Int), Ds = [glD l, .int .i64 c, .int .i64 i] := by
  obtain ⟨d1, r, rfl, h1, h⟩ := typedA_one (by kernel_rfl) h
  obtain ⟨d2, r, rfl, h2, h⟩ := typedA_one (by kernel_rfl) h
  obtain ⟨d3, r, rfl, h3, h⟩ := typedA_one (by kernel_rfl) h
  cases typedA_nil h
  obtain ⟨xs, hx, -, he⟩ := typed_slice un22 h1
  obtain ⟨c, hc, -⟩ := typed_int un3 h2
  obtain ⟨i, hi, -⟩ := typed_int un3 h3
  obtain ⟨l, rfl⟩ := gls_of_typed he
  simp only [List.cons.injEq, and_true] at hx hc hi
  exact ⟨l, c, i, by rw [hx, hc, hi]; rfl⟩
theorem lc {Ds : List D} (h : TypedA Try.prog [22, 3] Ds) : ∃ (l : List Gl) (c : Int), Ds = [glD l, .int .i64 c] := by
  obtain ⟨d1, r, rfl, h1, h⟩ := typedA_one (by kernel_rfl) h
  obtain ⟨d2, r, rfl, h2, h⟩ := typedA_one (by kernel_rfl) h
  cases typedA_nil h
  obtain ⟨xs, hx, -, he⟩ := typed_slice un22 h1
  obtain ⟨c, hc, -⟩ := typed_int un3 h2
  obtain ⟨l, rfl⟩ := gls_of_typed he
  simp only [List.cons.injEq, and_true] at hx hc
  exact ⟨l, c, by rw [hx, hc]; rfl⟩
end Go.Proofs.Wt
namespace Go.Proofs.Ytcppjlmicdfceaa
open Go.ChangeShapes Go.WideShapes Go.ChangeAt Go.RowKit Go.Proofs.Zs30
theorem own : ownKnob Try.prog.godebug = none := by kernel_rfl
theorem laidOut : laidOutB Try.prog = true := by kernel_rfl
end Go.Proofs.Ytcppjlmicdfceaa
