/- What typed data are, kind by kind. -/
import Derived.Test.YtcppjlmicdfceaaZzB2
set_option linter.unusedVariables false
namespace Vm
open Go
section
variable {P : Program}
theorem typed_int {t : TypeId} {k : IntKind} {ds : List D} (hu : P.underlying t = some (.int k)) (h : Typed P t ds) : ∃ n, ds = [.int k n] ∧ (Lit.int k n).wf = true := by
  cases h with
  | bool _ b h => rw [hu] at h; cases h
  | int _ k1 n h hn => rw [hu] at h; cases h; exact ⟨n, rfl, hn⟩
  | str _ s h hs => rw [hu] at h; cases h
  | slice _ e xs h hl hx => rw [hu] at h; cases h
  | struct _ fs ds h hf => rw [hu] at h; cases h
  | array _ e n ds h hf => rw [hu] at h; cases h
theorem typed_slice {t e : TypeId} {ds : List D} (hu : P.underlying t = some (.slice e)) (h : Typed P t ds) : ∃ xs, ds = [.sl false xs] ∧ xs.length ≤ maxLen ∧ TypedE P e xs := by
  cases h with
  | bool _ b h => rw [hu] at h; cases h
  | int _ k1 n h hn => rw [hu] at h; cases h
  | str _ s h hs => rw [hu] at h; cases h
  | slice _ e xs h hl hx => rw [hu] at h; cases h; exact ⟨xs, rfl, hl, hx⟩
  | struct _ fs ds h hf => rw [hu] at h; cases h
  | array _ e n ds h hf => rw [hu] at h; cases h
theorem typed_struct {t : TypeId} {fs : Array Field} {ds : List D} (hu : P.underlying t = some (.struct fs)) (h : Typed P t ds) : TypedF P (fs.toList.map (·.type)) ds := by
  cases h with
  | bool _ b h => rw [hu] at h; cases h
  | int _ k1 n h hn => rw [hu] at h; cases h
  | str _ s h hs => rw [hu] at h; cases h
  | slice _ e xs h hl hx => rw [hu] at h; cases h
  | struct _ fs ds h hf => rw [hu] at h; cases h; exact hf
  | array _ e n ds h hf => rw [hu] at h; cases h
def fieldTs (P : Program) (t : TypeId) : Option (List TypeId) :=
  match P.underlying t with
  | some (.struct fs) => some (fs.toList.map (·.type))
  | _ => none
theorem typed_fields {t : TypeId} {ts : List TypeId} {ds : List D} (hu : fieldTs P t = some ts) (h : Typed P t ds) : TypedF P ts ds := by
  unfold fieldTs at hu
  split at hu
  · rename_i fs hs
    cases hu
    exact typed_struct hs h
  · cases hu
theorem typedF_int {t : TypeId} {k : IntKind} {ts : List TypeId} {ds : List D} (hu : P.underlying t = some (.int k)) (h : TypedF P (t :: ts) ds) : ∃ n es, ds = .int k n :: es ∧ TypedF P ts es := by
  cases h with
  | cons _ _ ds es h hr =>
    obtain ⟨n, rfl, _⟩ := typed_int hu h
    exact ⟨n, es, rfl, hr⟩
theorem typedF_nil {ds : List D} (h : TypedF P [] ds) : ds = [] := by cases h; rfl
theorem typedE_agg {e : TypeId} {xs : List D} (ha : aggT P e = true) (h : TypedE P e xs) {α : Type} (f : α → D) (hf : ∀ cs, Typed P e cs → ∃ a, D.agg cs = f a) : ∃ l : List α, xs = l.map f := by
  induction xs with
  | nil => exact ⟨[], rfl⟩
  | cons x xs ih =>
    cases h with
    | agg _ cs _ ha' h hr =>
      obtain ⟨l, hl⟩ := ih hr
      obtain ⟨a, hb⟩ := hf cs h
      exact ⟨a :: l, by rw [List.map_cons, ← hl, hb]⟩
    | one _ _ _ ha' h hr => rw [ha] at ha'; cases ha'
theorem typedA_one {t : TypeId} {ts : List TypeId} {ds : List D} (ha : aggT P t = false) (h : TypedA P (t :: ts) ds) : ∃ d r, ds = d :: r ∧ Typed P t [d] ∧ TypedA P ts r := by
  cases h with
  | agg _ _ cs _ ha' h hr => rw [ha] at ha'; cases ha'
  | one _ _ d ds ha' h hr => exact ⟨d, ds, rfl, h, hr⟩
theorem typedA_nil {ds : List D} (h : TypedA P [] ds) : ds = [] := by cases h; rfl
end
end Vm
