/- The chapter on watching: the document's carets. -/
import Derived.Test.YtcppjlmicdfceaaZs30F
import Derived.Test.YtcppjlmicdfceaaZs30WtL
set_option maxHeartbeats 4000000
set_option linter.unusedVariables false
set_option linter.unusedSimpArgs false
namespace Go.Proofs.Wt
open Go Vm Go.Proofs.Zs30

theorem w32_eq (a : Int) : IntKind.i32.wrap a = (a + 2147483648) % 4294967296 - 2147483648 := by rw [IntKind.wrap_i32]
theorem add_eq2 (a b : Int) : add a b = (a + b + 2147483648) % 4294967296 - 2147483648 := by
  rw [add_eq]; simp only [w32_eq]; omega
def fits (a : Int) : Prop := -2147483648 ≤ a ∧ a < 2147483648
theorem add_fits (a b : Int) : fits (add a b) := by rw [add_eq2]; unfold fits; omega
theorem add_assoc3 (a b x : Int) : add a (add b x) = add (add a b) x := by simp only [add_eq2]; omega
theorem add_zero32 {a : Int} (h : fits a) : add a 0 = a := by rw [add_eq2]; unfold fits at h; omega
theorem wide_fits {xs : List Gl} : ∀ {a : Int}, fits a → fits (wide xs a) := by
  induction xs with
  | nil => exact fun h => h
  | cons g r ih => exact fun h => ih (add_fits _ _)
theorem add_wide {xs : List Gl} : ∀ {a b : Int}, add a (wide xs b) = wide xs (add a b) := by
  induction xs with
  | nil => exact rfl
  | cons g r ih => intro a b; simp only [wide]; rw [ih, add_assoc3]
theorem wide_app (xs ys : List Gl) : ∀ a : Int, wide (xs ++ ys) a = wide ys (wide xs a) := by
  induction xs with
  | nil => exact fun _ => rfl
  | cons g r ih => intro a; simp only [List.cons_append, wide]; exact ih _
/-- what the document reckons for a code, cluster by cluster -/
def rstep (l : List Gl) (i own : Int) (q : Q) (far : Int) : Int :=
  let f1 := if q.a < own then add far (wideQ l q) else far
  if q.a = own then add f1 (IntKind.i64.wrap ((IntKind.i64.wrap (IntKind.i64.wrap (i - own) * wideQ l q)).tdiv (IntKind.i64.wrap (q.b - own)))) else f1
def rfold (l : List Gl) (i own : Int) : List Q → Int → Int
  | [], far => far
  | q :: G, far => rfold l i own G (rstep l i own q far)
theorem rfold_take {l : List Gl} {i own : Int} {G : List Q} {j : Nat} {q : Q} : ∀ {far : Int}, G[j]? = some q → rfold l i own (G.take (j + 1)) far = rstep l i own q (rfold l i own (G.take j) far) := by
  induction G generalizing j with
  | nil => intro far h; simp at h
  | cons x G ih =>
    intro far h
    cases j with
    | zero => simp at h; subst h; simp [rfold]
    | succ j => simp only [List.take_succ_cons, rfold]; exact ih (by simpa using h)
theorem rfold_above {l : List Gl} {i own : Int} {G : List Q} : ∀ {far : Int}, (∀ q ∈ G, own < q.a) → rfold l i own G far = far := by
  induction G with
  | nil => exact fun _ => rfl
  | cons q G ih =>
    intro far h
    have := h q (by simp)
    have e : rstep l i own q far = far := by simp only [rstep]; rw [if_neg (by omega), if_neg (by omega)]
    simp only [rfold, e]
    exact ih fun p hp => h p (by simp [hp])
theorem runs_ge {l : List Gl} {c : Int} (h1 : ∀ j, j + 1 < l.length → bAt l j ≤ bAt l (j + 1)) {f : Nat} {G : List Q} (h : Runs l c l.length f G) : ∀ q ∈ G, bAt l f ≤ q.a := by
  induction h with
  | nil => simp
  | cons f t G hft htn hs hn h ih =>
    intro q hq
    rcases List.mem_cons.1 hq with rfl | hq
    · exact Int.le_refl _
    · have := ih q hq
      by_cases ht : t < l.length
      · exact Int.le_trans (mono_le h1 (by omega) ht) this
      · rw [runs_end h ht] at hq
        exact absurd hq (by simp)
theorem part_drop {l : List Gl} {f t : Nat} {x : Int} {far : Int} (hft : f ≤ t) (htl : t ≤ l.length) (hff : fits far) : wide (l.drop f) far = wide (l.drop t) (add far (wideQ l ⟨x, x, f, t⟩)) := by
  have : l.drop f = (l.take t).drop f ++ l.drop t := by
    conv => lhs; rw [← List.take_append_drop t l]
    rw [List.drop_append, show f - (l.take t).length = 0 by simp; omega, List.drop_zero]
  rw [this, wide_app, wideQ, part]
  simp only [Int.toNat_natCast]
  rw [add_wide, add_zero32 hff]
theorem wideQ_congr {l : List Gl} {q p : Q} (h1 : q.c = p.c) (h2 : q.d = p.d) : wideQ l q = wideQ l p := by simp [wideQ, part, h1, h2]
/-- what stands for a code; how many there are; what the last one is -/
theorem cars_at {l : List Gl} {c : Int} (h1 : ∀ j, j + 1 < l.length → bAt l j ≤ bAt l (j + 1)) (h2 : ∀ j, j < l.length → 0 ≤ bAt l j ∧ bAt l j < c) (hc : c ≤ 1000) {f : Nat} {G : List Q} (h : Runs l c l.length f G) :
    ∀ far, f < l.length → fits far → (∀ i, bAt l f ≤ i → i < c → (cars l G far)[(i - bAt l f).toNat]? = some (rfold l i (((G.find? (hasQ i)).map Q.a).getD (-1)) G far)) ∧
      (cars l G far).length = (c - bAt l f).toNat + 1 ∧ (cars l G far)[(c - bAt l f).toNat]? = some (wide (l.drop f) far) := by
  induction h with
  | nil => intro far hf; omega
  | cons f t G hft htn hs hn h ih =>
    intro far hf hff
    have a1 := h2 f hf
    obtain ⟨q, hq⟩ : ∃ q : Q, (⟨bAt l f, if t < l.length then bAt l t else c, f, t⟩ : Q) = q := ⟨_, rfl⟩
    have ha : q.a = bAt l f := by rw [← hq]
    have hb : q.b = if t < l.length then bAt l t else c := by rw [← hq]
    have hqw : wideQ l q = wideQ l ⟨f, f, f, t⟩ := wideQ_congr (by rw [← hq]) (by rw [← hq])
    rw [hq]
    have hok : q.a < q.b ∧ q.b ≤ c := by
      have := runs_ok h1 h2 (Runs.cons f t G hft htn hs hn h) _ (List.mem_cons_self ..)
      rw [hq] at this
      exact ⟨this.2.1, this.2.2.1⟩
    have hlen1 : ((List.range (q.b - q.a).toNat).map fun k => ent far (wideQ l q) (k : Nat) (q.b - q.a)).length = (q.b - q.a).toNat := by simp
    have inq : ∀ i, bAt l f ≤ i → i < q.b → (cars l (q :: G) far)[(i - bAt l f).toNat]? = some (rfold l i ((((q :: G).find? (hasQ i)).map Q.a).getD (-1)) (q :: G) far) := by
      intro i hi1 hi2
      have hh : hasQ i q = true := by simp [hasQ, ha, hi1, hi2]
      rw [List.find?_cons, hh]
      simp only [Option.map_some, Option.getD_some, rfold, cars]
      rw [List.getElem?_append_left (by rw [hlen1]; omega), List.getElem?_map, List.getElem?_range (by omega)]
      simp only [Option.map_some, Option.some.injEq]
      rw [rfold_above]
      · simp only [rstep, Int.lt_irrefl, if_false, if_true, ent]
        rw [wi64 (n := i - q.a) (by omega) (by omega), wi64 (n := q.b - q.a) (by omega) (by omega)]
        rw [show (((i - bAt l f).toNat : Nat) : Int) = i - q.a by omega]
      · intro p hp
        by_cases ht : t < l.length
        · have := runs_ge h1 h p hp
          rw [if_pos ht] at hb
          omega
        · cases h with
          | nil => cases hp
          | cons _ t' G' hft' htn' => omega
    by_cases ht : t < l.length
    · rw [if_pos ht] at hb
      obtain ⟨ih1, ih2, ih3⟩ := ih (add far (wideQ l q)) ht (add_fits _ _)
      refine ⟨fun i hi1 hi2 => ?_, ?_, ?_⟩
      · by_cases hib : i < q.b
        · exact inq i hi1 hib
        · have hh : hasQ i q = false := by simp [hasQ]; omega
          rw [List.find?_cons, hh]
          simp only [rfold, cars]
          rw [List.getElem?_append_right (by rw [hlen1]; omega), hlen1, show (i - bAt l f).toNat - (q.b - q.a).toNat = (i - bAt l t).toNat by omega, ih1 i (by omega) hi2]
          have hex := (runs_find h1 h hi2).2 ht (by omega)
          obtain ⟨p, hp⟩ := Option.isSome_iff_exists.1 hex
          have hpa := runs_ge h1 h p (List.mem_of_find?_eq_some hp)
          rw [hp]
          simp only [Option.map_some, Option.getD_some]
          have e : rstep l i p.a q far = add far (wideQ l q) := by simp only [rstep, if_pos (show q.a < p.a by omega), if_neg (show ¬ q.a = p.a by omega)]
          rw [e]
      · simp only [cars, List.length_append, hlen1, ih2]; omega
      · simp only [cars]
        rw [List.getElem?_append_right (by rw [hlen1]; omega), hlen1, show (c - bAt l f).toNat - (q.b - q.a).toNat = (c - bAt l t).toNat by omega, ih3, part_drop (x := f) (t := t) (by omega) (by omega) hff, hqw]
    · rw [if_neg ht] at hb
      have hte : t = l.length := by omega
      have hG : G = [] := runs_end h ht
      subst hG
      refine ⟨fun i hi1 hi2 => inq i hi1 (by omega), ?_, ?_⟩
      · simp only [cars, List.length_append, hlen1, List.length_cons, List.length_nil]; omega
      · simp only [cars]
        rw [List.getElem?_append_right (by rw [hlen1]; omega), hlen1, show (c - bAt l f).toNat - (q.b - q.a).toNat = 0 by omega, part_drop (x := f) (t := t) (by omega) (by omega) hff, hqw, List.drop_eq_nil_of_le (by omega)]
        rfl
end Go.Proofs.Wt
