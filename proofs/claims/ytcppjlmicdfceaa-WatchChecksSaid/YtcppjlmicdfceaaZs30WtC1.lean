/- The law WatchChecks of the chapter on watching returns true for every input, and leaves its arguments as they were. Conditions: none beyond the row's own. -/
import Derived.Test.YtcppjlmicdfceaaZs30F
import Derived.Test.YtcppjlmicdfceaaZs30WtQ
import Derived.Test.YtcppjlmicdfceaaRows
import Derived.Test.YtcppjlmicdfceaaZzB3
set_option maxHeartbeats 4000000
set_option linter.unusedVariables false
set_option linter.unusedSimpArgs false
namespace Go.Proofs.Wt
open Go Vm Go.Proofs.Zs30
theorem ftOut : fieldTs Try.prog 36 = some [3, 3, 3, 3, 3, 3] := by kernel_rfl
theorem gls_of_typed {xs : List D} (h : TypedE Try.prog 36 xs) : ∃ l : List Gl, xs = l.map Gl.d1 := by
  refine typedE_agg (by kernel_rfl) h Gl.d1 fun cs hc => ?_
  have hf := typed_fields ftOut hc
  obtain ⟨a, r0, rfl, hf0⟩ := typedF_int un3 hf
  obtain ⟨b, r1, rfl, hf1⟩ := typedF_int un3 hf0
  obtain ⟨c, r2, rfl, hf2⟩ := typedF_int un3 hf1
  obtain ⟨d, r3, rfl, hf3⟩ := typedF_int un3 hf2
  obtain ⟨e, r4, rfl, hf4⟩ := typedF_int un3 hf3
  obtain ⟨f, r5, rfl, hf5⟩ := typedF_int un3 hf4
  cases typedF_nil hf5
  exact ⟨⟨a, b, c, d, e, f⟩, rfl⟩
theorem primA : PrimOk Try.prog A := fun f p h => by cases h
theorem run_of_yes {f : FuncId} {args : List D} (h : Yes f args) : ∃ k H', runF Try.prog A k f args [] = some (.ok (.bool true) H') := by
  obtain ⟨k, r, h1, h2⟩ := h
  cases r with
  | pan d H => exact h2.elim
  | ok d H => exact ⟨k, H, by rw [h1, show d = .bool true from h2]⟩
theorem lic {Ds : List D} (h : TypedA Try.prog [22, 3, 3] Ds) : ∃ (l : List Gl) (c i : Int), Ds = [glD l, .int .i64 c, .int .i64 i] := by
  obtain ⟨d1, r, rfl, h1, h⟩ := typedA_one (by kernel_rfl) h
  obtain ⟨d2, r, rfl, h2, h⟩ := typedA_one (by kernel_rfl) h
  obtain ⟨d3, r, rfl, h3, h⟩ := typedA_one (by kernel_rfl) h
  cases typedA_nil h
  obtain ⟨xs, hx, -, he⟩ := typed_slice un22 h1
  obtain ⟨c, hc, -⟩ := typed_int un3 h2
  obtain ⟨i, hi, -⟩ := typed_int un3 h3
  obtain ⟨l, rfl⟩ := gls_of_typed he
  simp only [List.cons.injEq, and_true] at hx hc hi
  exact ⟨l, c, i, by rw [hx, hc, hi]; rfl⟩
end Go.Proofs.Wt
namespace Go.Proofs.Ytcppjlmicdfceaa
open Go.ChangeShapes Go.WideShapes Go.ChangeAt Go.RowKit Go.Proofs.Zs30
theorem own : ownKnob Try.prog.godebug = none := by kernel_rfl
theorem laidOut : laidOutB Try.prog = true := by kernel_rfl
theorem checks_lifted (os : Os) (started : os.Started) (H : Type) (enc : TypeId × Value → H) :
    ReturnsInHanded {} Try.checked os 3 .any (Rows.watchChecksSpec.pre6 enc Try.prog Try.f3 Rows.watchChecksRow.domain false) (Rows.watchChecksSpec.post enc Try.prog Try.f3 false true false false) := by
  refine returnsInHanded_of_change (C := Try.checked) own started (by kernel_rfl) Try.func3
    (ChangeSpec.witness6 (enc := enc) (C := Try.checked) false ⟨#[], #[.slice none 0 0, .int .i64 0, .int .i64 0], []⟩ 8 (by kernel_rfl) (by kernel_rfl) (by kernel_rfl) (by kernel_rfl)) ?_
  intro W base args ds gs before hval hW _ _
  refine Vm.law_contract (C := Try.checked) (fn := Try.f3) (A := Wt.A) (pk := 6) (tb := 4) Wt.primA rfl laidOut (fun t ht => by
    have := List.all_eq_true.1 (show (Try.f3.params.toList.all fun t => Try.prog.readableRec t && decide (t < Try.prog.types.size)) = true by kernel_rfl) t ht
    have h2 : Try.prog.readableRec t = true ∧ decide (t < Try.prog.types.size) = true := by simpa only [Bool.and_eq_true] using this
    exact ⟨h2.1, of_decide_eq_true h2.2⟩) (fun t ht => List.all_eq_true.1 (show (Try.f3.params.toList.all fun t => Vm.plainT Try.prog 6 t) = true by kernel_rfl) t ht) bo3 rfl un4 ?_ ?_ W base args ds gs before hval hW
  · intro ds h
    match ds, h with
    | [a, b, c], _ => exact ⟨rfl, rfl, rfl⟩
  · intro Ds h
    obtain ⟨l, c, i, rfl⟩ := Wt.lic h
    exact Wt.run_of_yes (Wt.checks_law l c i)
theorem checks_holds : Rows.WatchChecksSaid :=
  OpenClaim.holds_of_wide 3 Try.f3 rfl rfl rfl rfl rfl rfl rfl ⟨rfl, rfl, rfl, rfl, rfl⟩ rfl rfl rfl rfl rfl (by kernel_rfl) Try.func3 (by kernel_rfl)
    (of_decide_eq_true (by kernel_rfl)) (by unfold Func.isWrapper; first | (rw [if_pos (by decide +kernel)]; kernel_rfl) | (rw [if_neg (by decide +kernel)]; exact ⟨rfl, rfl⟩))
    (fun os started H enc _ => checks_lifted os started H enc)
end Go.Proofs.Ytcppjlmicdfceaa
