/- The chapter on watching: what clusters are. -/
import Derived.Test.YtcppjlmicdfceaaZs30F
import Derived.Test.YtcppjlmicdfceaaZs30WtR
set_option maxHeartbeats 4000000
set_option linter.unusedVariables false
set_option linter.unusedSimpArgs false
namespace Go.Proofs.Wt
open Go Vm Go.Proofs.Zs30

/-- the clusters of the glyphs from a place to another -/
inductive Runs (l : List Gl) (c : Int) (n : Nat) : Nat → List Q → Prop
  | nil : Runs l c n n []
  | cons (f t : Nat) (G : List Q) (hft : f < t) (htn : t ≤ n) (hs : ∀ k, f ≤ k → k < t → bAt l k = bAt l f) (hn : t < n → bAt l t ≠ bAt l f) (h : Runs l c n t G) :
      Runs l c n f (⟨bAt l f, if t < n then bAt l t else c, f, t⟩ :: G)
theorem Runs.le {l : List Gl} {c : Int} {n f : Nat} {G : List Q} (h : Runs l c n f G) : f ≤ n := by
  induction h with
  | nil => exact Nat.le_refl _
  | cons f t G hft htn => omega
theorem Runs.len {l : List Gl} {c : Int} {n f : Nat} {G : List Q} (h : Runs l c n f G) : G.length + f ≤ n := by
  induction h with
  | nil => simp
  | cons f t G hft htn hs hn h ih => simp; omega
theorem modLast_cons (g : Q → Q) (q p : Q) (G : List Q) : modLast g (q :: p :: G) = q :: modLast g (p :: G) := by simp [modLast]
theorem Runs.step {l : List Gl} {c : Int} {k f : Nat} {G : List Q} (h : Runs l c k f G) (hf : f < k) :
    Runs l c (k + 1) f (modLast (fun q => { q with d := (k + 1 : Nat) }) (if newAt l k then modLast (fun q => { q with b := bAt l k }) G ++ [⟨bAt l k, c, k, k⟩] else G)) := by
  induction h with
  | nil => omega
  | cons f t G hft htn hs hn h ih =>
    cases h with
    | nil =>
      have hk1 : bAt l (k - 1) = bAt l f := hs (k - 1) (by omega) (by omega)
      have hk0 : (k == 0) = false := by simp; omega
      by_cases hnew : bAt l k = bAt l f
      · have : newAt l k = false := by simp [newAt, hk0, hk1, hnew]
        rw [this]
        have := Runs.cons (l := l) (c := c) (n := k + 1) f (k + 1) [] (by omega) (by omega) (fun j h1 h2 => by
          rcases Nat.lt_or_ge j k with h | h
          · exact hs j h1 h
          · have : j = k := by omega
            rw [this, hnew]) (fun h => by omega) .nil
        simpa [modLast] using this
      · have : newAt l k = true := by simp [newAt, hk0, hk1, hnew]
        rw [this]
        have h2 := Runs.cons (l := l) (c := c) (n := k + 1) k (k + 1) [] (by omega) (by omega) (fun j h1 h2 => by
          have : j = k := by omega
          rw [this]) (fun h => by omega) .nil
        have := Runs.cons (l := l) (c := c) (n := k + 1) f k _ (by omega) (by omega) hs (fun _ => hnew) h2
        simpa [modLast] using this
    | cons _ t' G' hft' htn' hs' hn' h' =>
      have ih := ih (by omega)
      have h1 : t < k := by omega
      have base := Runs.cons (l := l) (c := c) (n := k + 1) f t _ hft (by omega) hs (fun _ => hn h1) ih
      rw [if_pos (show t < k + 1 by omega)] at base
      rw [if_pos h1]
      by_cases hnew : newAt l k = true
      · rw [if_pos hnew] at base ⊢
        rw [modLast_cons, List.cons_append]
        obtain ⟨p, G2, hp⟩ : ∃ p G2, modLast (fun q => { q with b := bAt l k }) (⟨bAt l t, if t' < k then bAt l t' else c, t, t'⟩ :: G') ++ [⟨bAt l k, c, k, k⟩] = p :: G2 := by
          cases hh : modLast (fun q => { q with b := bAt l k }) (⟨bAt l t, if t' < k then bAt l t' else c, t, t'⟩ :: G') ++ [(⟨bAt l k, c, k, k⟩ : Q)] with
          | nil => simp at hh
          | cons p G2 => exact ⟨p, G2, rfl⟩
        rw [hp] at base ⊢
        rw [modLast_cons]
        exact base
      · rw [if_neg hnew] at base ⊢
        rw [modLast_cons]
        exact base
theorem cls_runs (l : List Gl) (c : Int) : ∀ k, Runs l c k 0 (cls l c k)
  | 0 => .nil
  | 1 => by
    have h := Runs.cons (l := l) (c := c) (n := 1) 0 1 [] (by omega) (by omega) (fun j _ h2 => by
      have : j = 0 := by omega
      rw [this]) (fun h => by omega) .nil
    have h1 : newAt l 0 = true := rfl
    simpa [cls, h1, modLast] using h
  | k + 2 => by
    have := (cls_runs l c (k + 1)).step (by omega)
    rw [cls_succ, nxt]
    exact this
/-- glyphs that may be -/
theorem check_facts {l : List Gl} {c : Int} (h : checkOf l c = 0) : (l ≠ [] → 0 < c ∧ bAt l 0 = 0) ∧ (∀ j, j + 1 < l.length → bAt l j ≤ bAt l (j + 1)) ∧ ∀ j, j < l.length → 0 ≤ bAt l j ∧ bAt l j < c := by
  unfold checkOf at h
  split at h
  · omega
  · rename_i h0
    split at h
    · omega
    · rename_i h1
      split at h
      · omega
      · rename_i h2
        split at h
        · omega
        · rename_i h3
          simp only [fault, Bool.not_eq_true, Bool.and_eq_false_iff, decide_eq_false_iff_not] at h0 h1 h2 h3
          refine ⟨fun hne => ?_, fun j hj => ?_, fun j hj => ?_⟩
          · have : 0 < l.length := List.length_pos_iff.2 hne
            refine ⟨?_, ?_⟩
            · rcases h0 with h | h <;> omega
            · rcases h1 with h | h
              · omega
              · simpa using h
          · simp only [down, List.any_eq_false, List.mem_range, decide_eq_true_eq] at h2
            have := h2 j (by omega)
            omega
          · simp only [outOf, List.any_eq_false] at h3
            have := h3 l[j] (List.getElem_mem hj)
            simp only [Bool.or_eq_true, decide_eq_true_eq, not_or] at this
            rw [bAt_get hj]
            omega
theorem mono_le {l : List Gl} (h : ∀ j, j + 1 < l.length → bAt l j ≤ bAt l (j + 1)) {i : Nat} : ∀ {j : Nat}, i ≤ j → j < l.length → bAt l i ≤ bAt l j := by
  intro j hij
  induction hij with
  | refl => intro _; omega
  | @step m hij ih =>
    intro hj
    have h1 := ih (by omega)
    have h2 := h m hj
    exact Int.le_trans h1 h2
theorem own_char {i : Int} : ∀ {l : List Gl} {k : Nat} {a : Int}, k < l.length → bAt l k ≤ i → (∀ j, k < j → j < l.length → i < bAt l j) → own l i a = bAt l k
  | [], k, a, hk, _, _ => by simp at hk
  | g :: r, 0, a, hk, h1, h2 => by
    simp only [own]
    have hb : g.b ≤ i := h1
    rw [if_pos hb]
    have : ∀ (r : List Gl) (a : Int), (∀ j, j < r.length → i < bAt r j) → own r i a = a := by
      intro r
      induction r with
      | nil => intro a _; rfl
      | cons x r ih =>
        intro a h
        simp only [own]
        have hx : i < x.b := h 0 (by simp)
        rw [if_neg (by omega)]
        exact ih a (fun j hj => h (j + 1) (by simpa using hj))
    exact this r g.b (fun j hj => h2 (j + 1) (by omega) (by simpa using hj))
  | g :: r, k + 1, a, hk, h1, h2 => by
    simp only [own]
    exact own_char (l := r) (k := k) (by simpa using hk) h1 (fun j h3 h4 => h2 (j + 1) (by omega) (by simpa using h4))
def hasQ (i : Int) (q : Q) : Bool := decide (q.a ≤ i) && decide (i < q.b)
/-- the cluster that has a code -/
theorem runs_find {l : List Gl} {c i : Int} (hm : ∀ j, j + 1 < l.length → bAt l j ≤ bAt l (j + 1)) {f : Nat} {G : List Q} (h : Runs l c l.length f G) (hic : i < c) :
    (∀ q, G.find? (hasQ i) = some q → q.a = own l i (-1)) ∧ (f < l.length → bAt l f ≤ i → (G.find? (hasQ i)).isSome) := by
  induction h with
  | nil => exact ⟨fun q h => by simp at h, fun h => by omega⟩
  | cons f t G hft htn hs hn h ih =>
    obtain ⟨ih1, ih2⟩ := ih
    simp only [List.find?_cons]
    by_cases hq : hasQ i ⟨bAt l f, if t < l.length then bAt l t else c, f, t⟩ = true
    · rw [hq]
      refine ⟨fun q h => ?_, fun _ _ => rfl⟩
      simp only [Option.some.injEq] at h
      subst h
      simp only [hasQ, Bool.and_eq_true, decide_eq_true_eq] at hq
      have ht := hs (t - 1) (by omega) (by omega)
      have := own_char (i := i) (l := l) (k := t - 1) (a := -1) (by omega) (by omega) (fun j h1 h2 => by
        have h3 : t < l.length := by omega
        rw [if_pos h3] at hq
        have := mono_le hm (i := t) (j := j) (by omega) h2
        omega)
      rw [this, ht]
    · have hq : hasQ i ⟨bAt l f, if t < l.length then bAt l t else c, f, t⟩ = false := by simpa using hq
      rw [hq]
      refine ⟨ih1, fun _ hb => ?_⟩
      have : ¬ i < (if t < l.length then bAt l t else c) := fun hlt => by
        have : hasQ i ⟨bAt l f, if t < l.length then bAt l t else c, f, t⟩ = true := by simp [hasQ, hb, hlt]
        rw [this] at hq; cases hq
      by_cases ht : t < l.length
      · rw [if_pos ht] at this
        exact ih2 ht (by omega)
      · rw [if_neg ht] at this; omega
theorem clusters_runs {l : List Gl} {c : Int} (h : checkOf l c = 0) : Runs l c l.length 0 (clustersOf l c) := by
  rw [clustersOf, if_pos h]; exact cls_runs l c l.length
theorem clusters_len (l : List Gl) (c : Int) : (clustersOf l c).length ≤ l.length := by
  unfold clustersOf
  split
  · exact cls_len l c l.length
  · simp
/-- whom a code is of, by clusters -/
theorem owner_find (l : List Gl) (c i : Int) (hi : 0 ≤ i) (hic : i < c) : ownerOf l c i = (((clustersOf l c).find? (hasQ i)).map Q.a).getD (-1) := by
  by_cases hc : checkOf l c = 0
  · have hr := clusters_runs hc
    obtain ⟨h1, h2, h3⟩ := check_facts hc
    obtain ⟨g1, g2⟩ := runs_find h2 hr hic
    rw [ownerOf, if_neg (by simp [hc]; omega)]
    cases hf : (clustersOf l c).find? (hasQ i) with
    | some q => simp [g1 q hf]
    | none =>
      by_cases hl : l = []
      · subst hl; rfl
      · have := g2 (List.length_pos_iff.2 hl) (by have := (h1 hl).2; omega)
        rw [hf] at this; cases this
  · rw [ownerOf, if_pos (.inl hc), clustersOf, if_neg hc]; rfl
end Go.Proofs.Wt
