/- What the program's table of types says. -/
import Derived.Test.YtcppjlmicdfceaaZzV3
set_option linter.unusedVariables false
set_option linter.unusedSimpArgs false
namespace Vm
open Go Go.RowKit

/-! ### what the program's table of types says -/
section
variable {P : Program}
theorem run_size {t : TypeId} {n : Nat} (h : sizeT P t = some n) (w : World) : (Go.sizeOf t).run P w = .ok n w := by
  unfold sizeT at h
  cases hi : P.info? t with
  | none => simp [hi] at h
  | some i =>
    simp [hi] at h
    simp [Go.sizeOf, typeInfo, hi, h.2]
theorem info_of_size {t : TypeId} {n : Nat} (h : sizeT P t = some n) : ∃ i, P.info? t = some i ∧ i.size = n ∧ n ≠ 0 := by
  unfold sizeT at h
  cases hi : P.info? t with
  | none => simp [hi] at h
  | some i =>
    simp [hi] at h
    exact ⟨i, rfl, h.2, by rw [← h.2]; exact h.1⟩
theorem run_aggT {t : TypeId} {a : Bool} (h : isAggT P t = some a) (w : World) : (Go.isAgg t).run P w = .ok a w := by
  unfold isAggT at h
  cases hu : P.underlying t with
  | none => simp [hu] at h
  | some d =>
    rw [hu] at h
    unfold Go.isAgg
    simp only [Sem.run_bind, run_underlying hu, Result.andThen_ok]
    cases d <;> simp at h <;> subst h <;> rfl

end
end Vm
