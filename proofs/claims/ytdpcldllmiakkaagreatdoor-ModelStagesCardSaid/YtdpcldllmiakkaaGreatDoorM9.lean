/- Texts that stand behind this claim, one after the other. -/
import Derived.Test.YtdpcldllmiakkaaGreatDoorM6
import Derived.Test.YtdpcldllmiakkaaGreatDoorM8
import Derived.Test.YtdpcldllmiakkaaGreatDoorM7
import Derived.HandedShaped
import Derived.LaidLaws
/- The machine of expressions matches a word by the least rule that has it. -/
section
set_option maxHeartbeats 4000000
set_option linter.unusedVariables false
set_option linter.unusedSimpArgs false
namespace Go.Proofs.W
open Go Vm Go.Proofs.Zs25

theorem clos_sub {n : Nfa} {l : List Int} {s t : Nat} (hs : (s : Int) ∈ clos n l) (ht : (t : Int) ∈ n.free.getD s []) (hk : t < n.set.length) : (t : Int) ∈ clos n l := by
  obtain ⟨i, h1, h2, h3⟩ := mem_listZ.1 hs
  obtain rfl : s = i := by omega
  exact mem_listZ.2 ⟨t, hk, clo_iff.2 (.step (clo_iff.1 h2) ht), rfl⟩
theorem at_path {n : Nfa} (hok : OkM n) (h1 : 1 ≤ kN n) (w : List Int) : ∀ x y, Path n w x y → x = (0, 0) → y.1 < kN n ∧ y.2 ≤ w.length ∧ ((y.1 : Nat) : Int) ∈ atN n (w.take y.2) := by
  intro x y h
  induction h with
  | refl =>
    rintro rfl
    refine ⟨h1, Nat.zero_le _, ?_⟩
    exact mem_listZ.2 ⟨0, h1, clo_iff.2 (.base ⟨h1, by simp⟩), rfl⟩
  | step _ g ih =>
    intro e
    obtain ⟨i1, i2, i3⟩ := ih e
    cases g with
    | @eps s t p ht =>
      have := hok.fr s t ht
      have htk : t < kN n := by omega
      obtain ⟨l, hl⟩ := atN_clos n (w.take p)
      simp only at i1 i2 i3 ⊢
      rw [hl] at i3 ⊢
      exact ⟨htk, i2, clos_sub i3 ht htk⟩
    | @sym s t p c hc hh hto =>
      simp only at i1 i2 i3 ⊢
      have hp : p < w.length := by
        rcases Nat.lt_or_ge p w.length with h | h
        · exact h
        · rw [List.getElem?_eq_none h] at hc; cases hc
      have hset : n.set.getD s 0 ≠ 0 := fun e => by rw [hit_zero e] at hh; cases hh
      have hst := hok.st s hset
      have htk : t < kN n := by omega
      refine ⟨htk, by omega, ?_⟩
      rw [atN_take hp]
      have hcw : w[p] = c := by rw [List.getElem?_eq_getElem hp] at hc; exact Option.some.inj hc
      rw [hcw]
      refine mem_listZ.2 ⟨t, htk, clo_iff.2 (.base ⟨htk, mem_listZ.2 ⟨t, htk, ?_, rfl⟩⟩), rfl⟩
      simp only [stepTo, List.any_eq_true, List.mem_range, Bool.and_eq_true, decide_eq_true_eq]
      exact ⟨s, i1, ⟨i3, hh⟩, hto⟩
theorem path_at {n : Nfa} (w : List Int) : ∀ (j s : Nat), j ≤ w.length → (s : Int) ∈ atN n (w.take j) → Path n w (0, 0) (s, j)
  | 0, s, _, h => by
    obtain ⟨i, h1, h2, h3⟩ := mem_listZ.1 h
    obtain rfl : s = i := by omega
    have hr := clo_iff.1 h2
    clear h h1 h2 h3
    induction hr with
    | @base s' hb =>
      have e : s' = 0 := by simpa [inS] using hb.2
      subst e; exact .refl
    | step _ ht ih => exact .step ih (.eps ht)
  | j + 1, s, hj, h => by
    have hjw : j < w.length := by omega
    rw [atN_take hjw] at h
    obtain ⟨i, h1, h2, h3⟩ := mem_listZ.1 h
    obtain rfl : s = i := by omega
    have hr := clo_iff.1 h2
    clear h h1 h2 h3
    induction hr with
    | base hb =>
      obtain ⟨t, g1, g2, g3⟩ := mem_listZ.1 hb.2
      simp only [stepTo, List.any_eq_true, List.mem_range, Bool.and_eq_true, decide_eq_true_eq] at g2
      obtain ⟨x, k1, ⟨k2, k3⟩, k4⟩ := g2
      rw [← g3] at k4
      exact .step (path_at w j x (by omega) k2) (.sym (List.getElem?_eq_getElem hjw) k3 k4)
    | step _ ht ih => exact .step ih (.eps ht)
theorem goodR_step {n : Nfa} {w : List Int} : ∀ (l : List Rx) (a : Nat) (fl : List Bool) (x p : Nat) (y : Nat × Nat), FragR n l a → shapesL l = true → fl.length = w.length + 1 → GoodL w 3 l a fl x p → Go1 n w (x, p) y → GoodL w 3 l a fl y.1 y.2
  | [], a, fl, x, p, y, _, _, _, hg, _ => by simp [GoodL] at hg
  | r :: l, a, fl, x, p, y, hf, hs, hfl, hg, g => by
    obtain ⟨h1, h2, h3⟩ := hf
    simp only [shapesL, Bool.and_eq_true] at hs
    simp only [GoodL, if_neg (show ¬ (3 : Int) = 2 by omega)] at hg ⊢
    rcases hg with hg | hg
    · by_cases hx : x = endOf r a
      · subst hx
        obtain ⟨t, ht, rfl⟩ := go_cases h2 g
        cases ht
      · exact .inl (good_step n w r a fl x p y h1 hs.1 hfl hg hx g)
    · exact .inr (goodR_step l _ fl x p y h3 hs.2 hfl hg g)
theorem goodR_end {w : List Int} : ∀ (l : List Rx) (a : Nat) (fl : List Bool) (s p i : Nat), (endsP l a)[i]? = some s → GoodL w 3 l a fl s p → ∃ r, l[i]? = some r ∧ at' (endsR w r fl) p
  | [], a, fl, s, p, i, h, _ => by simp [endsP] at h
  | r :: l, a, fl, s, p, i, h, hg => by
    have hp := sizeR_pos r
    simp only [GoodL, if_neg (show ¬ (3 : Int) = 2 by omega)] at hg
    simp only [endsP] at h
    cases i with
    | zero =>
      have hs : endOf r a = s := by simpa using h
      rcases hg with hg | hg
      · rw [← hs] at hg
        exact ⟨r, rfl, good_end w r a hg⟩
      · have := goodL_rng w 3 l _ fl s p hg
        simp only [endOf] at hs; omega
    | succ i =>
      have h' : (endsP l (a + 2 * sizeR r))[i]? = some s := by simpa using h
      rcases hg with hg | hg
      · have h3 := endsP_rng l _ s (List.mem_of_getElem? h')
        have h4 := good_rng w r a fl s p hg
        simp only [endOf] at h4; omega
      · obtain ⟨r', k1, k2⟩ := goodR_end l _ fl s p i h' hg
        exact ⟨r', by simpa using k1, k2⟩
theorem frag_at {n : Nfa} : ∀ (l : List Rx) (a : Nat) (i : Nat) (r : Rx), FragR n l a → l[i]? = some r → ∃ x, x ∈ starts l a ∧ Frag n r x ∧ (endsP l a)[i]? = some (endOf r x)
  | [], a, i, r, _, h => by simp at h
  | z :: l, a, i, r, hf, h => by
    obtain ⟨h1, h2, h3⟩ := hf
    cases i with
    | zero =>
      have : z = r := by simpa using h
      subst this
      exact ⟨a, by simp [starts], h1, by simp [endsP]⟩
    | succ i =>
      obtain ⟨x, g1, g2, g3⟩ := frag_at l _ i r h3 (by simpa using h)
      exact ⟨x, by simp [starts, g1], g2, by simpa [endsP] using g3⟩
theorem has_at {w : List Int} {r : Rx} : hasR w r = true ↔ at' (endsR w r (startB w.length)) w.length := Iff.rfl
theorem start_at {m p : Nat} : at' (startB m) p ↔ p = 0 := by
  unfold at' startB
  cases p with
  | zero => simp
  | succ p =>
    simp only [List.getD_eq_getElem?_getD, List.getElem?_cons_succ, List.getElem?_replicate]
    split <;> simp
/-- a word leads to an expression's end just if the expression has it -/
theorem leads {n : Nfa} {l : List Rx} (h : Pre n l) (hr : ∀ r ∈ l, rightR r = true) (w : List Int) {i s : Nat} {r : Rx} (hi : l[i]? = some r) (hs : (endsP l 1)[i]? = some s) : (s : Int) ∈ atN n w ↔ hasR w r = true := by
  have hsl : shapesL l = true := by rw [shapesL_eq, List.all_eq_true]; exact fun x hx => (sizes hr x hx).2
  have hw : w.take w.length = w := List.take_length
  constructor
  · intro hm
    rw [← hw] at hm
    have hp := path_at (n := n) w w.length s (Nat.le_refl _) hm
    have key : ∀ x y, Path n w x y → x = (0, 0) → y = (0, 0) ∨ GoodL w 3 l 1 (startB w.length) y.1 y.2 := by
      intro x y hp
      induction hp with
      | refl => exact fun e => .inl e
      | step _ g ih =>
        intro e
        rcases ih e with rfl | hg
        · obtain ⟨t, ht, rfl⟩ := go_cases h.s0 g
          exact .inr (good_starts w 3 (by omega) l 1 ht (start_at.2 rfl))
        · exact .inr (goodR_step l 1 _ _ _ _ h.fr hsl (start_len _) hg g)
    rcases key _ _ hp rfl with e | hg
    · have := endsP_rng l 1 s (List.mem_of_getElem? hs)
      have : s = 0 := congrArg Prod.fst e
      omega
    · obtain ⟨r', k1, k2⟩ := goodR_end l 1 _ s w.length i hs hg
      rw [hi] at k1; cases k1
      exact has_at.2 k2
  · intro hh
    obtain ⟨x, g1, g2, g3⟩ := frag_at l 1 i r h.fr hi
    rw [hs] at g3
    cases g3
    obtain ⟨i0, k1, k2⟩ := sound n w r x _ _ g2 (sizes hr r (List.mem_of_getElem? hi)).2 (start_len _) (has_at.1 hh)
    rw [start_at] at k1
    subst k1
    have hp : Path n w (0, 0) (endOf r x, w.length) := (Path.one (go_free h.s0 g1)).trans k2
    have := at_path h.ok (by rw [h.k]; omega) w _ _ hp rfl
    have h3 := this.2.2
    simp only [hw] at h3
    exact h3
end Go.Proofs.W
end
/- Machines without free steps: what they are as data; whether one may be; a step. -/
section
set_option maxHeartbeats 4000000
set_option linter.unusedVariables false
set_option linter.unusedSimpArgs false
namespace Go.Proofs.W
open Go Vm Go.Proofs.Zs25

structure Dfa where
  next : List (List Int)
  rule : List Int
def rowD (r : List Int) : D := .agg (r.map (.int .i64))
def rowsD (l : List (List Int)) : D := .sl false (l.map rowD)
def dfaD (d : Dfa) : D := .agg [rowsD d.next, isD d.rule]
theorem strip_row (r : List Int) : strip (rowD r) = some (rowD r) := by simp [rowD, strip, strip_ints]
theorem strip_rows (l : List (List Int)) : stripL (l.map rowD) = some (l.map rowD) := by
  induction l with
  | nil => rfl
  | cons q r ih => simp [stripL, ih, strip_row]
theorem row_noTup (r : List Int) : noTup (rowD r) = true := rfl
theorem row_cells (r : List Int) : (rowD r).cells = r.map (.int .i64) := rfl
theorem row_aggQ (r : List Int) : aggQ (rowD r) = true := rfl
theorem row_get {d : Dfa} {i : Nat} (h : i < d.next.length) : (d.next.map rowD)[i]? = some (rowD d.next[i]) := by simp [h]
end Go.Proofs.W
end
/- Machines without free steps: words, and the longest match. -/
section
set_option maxHeartbeats 4000000
set_option linter.unusedVariables false
set_option linter.unusedSimpArgs false
namespace Go.Proofs.W
open Go Vm Go.Proofs.Zs25

end Go.Proofs.W
end
/- The document's functions on machines without free steps. -/
section
set_option maxHeartbeats 4000000
set_option linter.unusedVariables false
set_option linter.unusedSimpArgs false
namespace Go.Proofs.W
open Go Vm Go.Proofs.Zs25

end Go.Proofs.W
end
/- The longest match, in two ways; beginnings of words. -/
section
set_option maxHeartbeats 4000000
set_option linter.unusedVariables false
set_option linter.unusedSimpArgs false
namespace Go.Proofs.W
open Go Vm Go.Proofs.Zs25

end Go.Proofs.W
end
/- Words: the state behind one, its rule. -/
section
set_option maxHeartbeats 4000000
set_option linter.unusedVariables false
set_option linter.unusedSimpArgs false
namespace Go.Proofs.W
open Go Vm Go.Proofs.Zs25

end Go.Proofs.W
end
/- Machines without free steps, made of such with: what is made, in plain terms. -/
section
set_option maxHeartbeats 4000000
set_option linter.unusedVariables false
set_option linter.unusedSimpArgs false
namespace Go.Proofs.W
open Go Vm Go.Proofs.Zs25

/-- where a set leads by a category -/
noncomputable def leadN (n : Nfa) (c : Int) (s : List Int) : List Int := clos n (stp n c s)
/-- a row, so far, and the sets then -/
noncomputable def rowTo (n : Nfa) (s : List Int) (ls : List (List Int)) : Nat → List Int × List (List Int)
  | 0 => ([], ls)
  | c + 1 => ((rowTo n s ls c).1 ++ [(addS (rowTo n s ls c).2 (leadN n c s)).1], (addS (rowTo n s ls c).2 (leadN n c s)).2)
noncomputable def runB (n : Nfa) : Nat → Nat → List (List Int) → List (List Int) → Option (List (List Int) × List (List Int))
  | 0, _, _, _ => none
  | k + 1, i, ls, nx => if i < ls.length then
      (if 200 < (rowTo n (ls.getD i []) ls 16).2.length then none else runB n k (i + 1) (rowTo n (ls.getD i []) ls 16).2 (nx ++ [(rowTo n (ls.getD i []) ls 16).1]))
    else some (ls, nx)
/-- a set's number among sets -/
def Code (ls : List (List Int)) (x : Int) (s : List Int) : Prop := (s = [] ∧ x = -1) ∨ (s ≠ [] ∧ ∃ j : Nat, x = j ∧ ls[j]? = some s)
theorem code_add (ls : List (List Int)) (l : List Int) : Code (addS ls l).2 (addS ls l).1 l := by
  by_cases h : l = []
  · exact .inl ⟨h, by simp [addS, h]⟩
  · exact .inr ⟨h, addS_at h⟩
theorem Code.old {ls : List (List Int)} {x : Int} {s : List Int} (h : Code ls x s) {ls' : List (List Int)} (k : ∀ (j : Nat) q, ls[j]? = some q → ls'[j]? = some q) : Code ls' x s := by
  rcases h with h | ⟨h1, j, h2, h3⟩
  · exact .inl h
  · exact .inr ⟨h1, j, h2, k j s h3⟩
theorem addS_mem {ls : List (List Int)} {l q : List Int} (h : q ∈ (addS ls l).2) : q ∈ ls ∨ (q = l ∧ l ≠ []) := by
  unfold addS at h
  split at h
  · exact .inl h
  · rename_i hl
    split at h
    · exact .inl h
    · rcases List.mem_append.1 h with h | h
      · exact .inl h
      · exact .inr ⟨by simpa using h, hl⟩
theorem addS_len (ls : List (List Int)) (l : List Int) : ls.length ≤ (addS ls l).2.length ∧ (addS ls l).2.length ≤ ls.length + 1 := by
  unfold addS
  split
  · simp
  · split <;> simp
/-- a set of a machine's states, closed, of which there are some -/
def GoodS (n : Nfa) (q : List Int) : Prop := q ≠ [] ∧ ∃ l, q = clos n l
theorem rowTo_old (n : Nfa) (s : List Int) (ls : List (List Int)) : ∀ (c j : Nat) (q : List Int), ls[j]? = some q → (rowTo n s ls c).2[j]? = some q
  | 0, j, q, h => h
  | c + 1, j, q, h => addS_old (rowTo_old n s ls c j q h)
theorem rowTo_len (n : Nfa) (s : List Int) (ls : List (List Int)) : ∀ c, (rowTo n s ls c).1.length = c ∧ ls.length ≤ (rowTo n s ls c).2.length ∧ (rowTo n s ls c).2.length ≤ ls.length + c
  | 0 => ⟨rfl, Nat.le_refl _, Nat.le_refl _⟩
  | c + 1 => by
    have ih := rowTo_len n s ls c
    have := addS_len (rowTo n s ls c).2 (leadN n c s)
    refine ⟨by simp [rowTo, ih.1], ?_, ?_⟩
    · simp only [rowTo]; omega
    · simp only [rowTo]; omega
theorem rowTo_good {n : Nfa} {s : List Int} {ls : List (List Int)} (h : ∀ q ∈ ls, GoodS n q) : ∀ c, ∀ q ∈ (rowTo n s ls c).2, GoodS n q
  | 0, q, hq => h q hq
  | c + 1, q, hq => by
    rcases addS_mem hq with h1 | ⟨rfl, h2⟩
    · exact rowTo_good h c q h1
    · exact ⟨h2, _, rfl⟩
theorem rowTo_code (n : Nfa) (s : List Int) (ls : List (List Int)) : ∀ (c k : Nat), k < c → Code (rowTo n s ls c).2 ((rowTo n s ls c).1.getD k 0) (leadN n k s)
  | 0, k, h => by omega
  | c + 1, k, h => by
    have hl := (rowTo_len n s ls c).1
    by_cases e : k = c
    · subst e
      have : (rowTo n s ls (k + 1)).1.getD k 0 = (addS (rowTo n s ls k).2 (leadN n k s)).1 := by
        simp only [rowTo, List.getD_eq_getElem?_getD]
        rw [List.getElem?_append_right (by omega), hl]; simp
      rw [this]
      exact code_add _ _
    · have : (rowTo n s ls (c + 1)).1.getD k 0 = (rowTo n s ls c).1.getD k 0 := by
        simp only [rowTo, List.getD_eq_getElem?_getD]
        rw [List.getElem?_append_left (by omega)]
      rw [this]
      exact (rowTo_code n s ls c k (by omega)).old fun j q hq => addS_old hq
structure DoneI (n : Nfa) (i : Nat) (ls nx : List (List Int)) : Prop where
  len : nx.length = i
  le : i ≤ ls.length
  good : ∀ q ∈ ls, GoodS n q
  z : ls[0]? = some (clos n [0])
  row : ∀ j, j < i → (nx.getD j []).length = 16 ∧ ∀ k : Nat, k < 16 → Code ls ((nx.getD j []).getD k 0) (leadN n k (ls.getD j []))
theorem DoneI.step {n : Nfa} {i : Nat} {ls nx : List (List Int)} (h : DoneI n i ls nx) (hi : i < ls.length) : DoneI n (i + 1) (rowTo n (ls.getD i []) ls 16).2 (nx ++ [(rowTo n (ls.getD i []) ls 16).1]) := by
  have hold := rowTo_old n (ls.getD i []) ls 16
  have hlen := rowTo_len n (ls.getD i []) ls 16
  have same : ∀ j, j < ls.length → (rowTo n (ls.getD i []) ls 16).2.getD j [] = ls.getD j [] := fun j hj => by
    have := hold j ls[j] (List.getElem?_eq_getElem hj)
    rw [List.getD_eq_getElem?_getD, this, List.getD_eq_getElem?_getD, List.getElem?_eq_getElem hj]
  refine ⟨by simp [h.len], by omega, rowTo_good h.good 16, hold _ _ h.z, fun j hj => ?_⟩
  by_cases e : j = i
  · subst e
    have e1 : (nx ++ [(rowTo n (ls.getD j []) ls 16).1]).getD j [] = (rowTo n (ls.getD j []) ls 16).1 := by
      simp only [List.getD_eq_getElem?_getD]
      rw [List.getElem?_append_right (by rw [h.len]; omega), h.len]; simp
    rw [e1, same j hi]
    exact ⟨hlen.1, fun k hk => rowTo_code _ _ _ 16 k hk⟩
  · have e1 : (nx ++ [(rowTo n (ls.getD i []) ls 16).1]).getD j [] = nx.getD j [] := by
      simp only [List.getD_eq_getElem?_getD]
      rw [List.getElem?_append_left (by rw [h.len]; omega)]
    rw [e1, same j (by omega)]
    obtain ⟨g1, g2⟩ := h.row j (by omega)
    exact ⟨g1, fun k hk => (g2 k hk).old hold⟩
theorem done_zero {n : Nfa} (h : clos n [0] ≠ []) : DoneI n 0 [clos n [0]] [] :=
  ⟨rfl, by simp, fun q hq => by rw [List.mem_singleton.1 hq]; exact ⟨h, _, rfl⟩, rfl, fun j hj => by omega⟩
theorem clos_zero {n : Nfa} (hk : 1 ≤ n.set.length) : clos n [0] ≠ [] := by
  intro h
  have : (0 : Int) ∈ clos n [0] := by
    unfold clos
    exact mem_listZ.2 ⟨0, by omega, clo_iff.2 (.base ⟨by omega, by simp⟩), rfl⟩
  rw [h] at this
  cases this
/-- the machine -/
def mkDfa (n : Nfa) (ls nx : List (List Int)) : Dfa := ⟨nx, ls.map (endsZ n)⟩
end Go.Proofs.W
end
/- More behind lists of one's own. -/
section
set_option maxHeartbeats 4000000
set_option linter.unusedVariables false
set_option linter.unusedSimpArgs false
namespace Go.Proofs.W
open Go Vm Go.Proofs.Zs25

/-- more behind a list of one's own -/
theorem vecAt_appendL {t e : TypeId} {n w m : Nat} {z d y : D} {H H1 : Heap} {xs ys : List D} (he : elemT Tryz.prog t = some e) (hn : sizeT Tryz.prog e = some n) (hw : bytesT Tryz.prog e = some w) (hz : zeroT Tryz.prog e = some z) (hzn : z.cells.length = n) (hw0 : w ≠ 0)
    (h : VecAt m d H xs) (hl : H.length ≤ H1.length) (hk : ∀ r, r < H.length → hget H1 r = hget H r) (hadd : addedD H1 y = some (ys, H1)) (hy : ys ≠ []) (hys : headSize n ys = true) (hx : headSize n xs = true) (hm : (xs.length + ys.length) * w ≤ 140737488355328) :
    ∃ d' H', appendD Tryz.prog t H1 d y = some (d', H') ∧ VecAt m d' H' (xs ++ ys) ∧ Same m H H' := by
  have hye : ys.isEmpty = false := by simpa using hy
  obtain ⟨h0, ⟨rfl, rfl⟩ | ⟨h1, r, h2, h4, rfl, h3⟩⟩ := h
  · refine ⟨.vec H1.length 0 (0 + ys.length), H1 ++ [Ob.arr ([] ++ ys)], ?_, ⟨by simp; omega, .inr ⟨by simpa using hy, H1.length, by omega, by simp, by simp, ?_⟩⟩, ⟨by simp; omega, fun k hk' => ?_⟩⟩
    · simp only [appendD, he, hn, hw, hz, Option.bind_some, hadd, hzn]
      have hm' : ys.length * w ≤ 140737488355328 := by simpa using hm
      have h0s : headSize n ([] : List D) = true := rfl
      simp [hw0, hys, hye, h0s, mostBytes, hm']
    · rw [hget_app0]; rfl
    · rw [hget_app_lt (by omega), hk k (by omega)]
  · have hg : hget H1 r = .arr xs := by rw [hk r h4, h3]
    have hne : xs.isEmpty = false := by simpa using h1
    refine ⟨.vec H1.length 0 (xs.length + ys.length), H1.set r Ob.dead ++ [Ob.arr (xs ++ ys)], ?_, ⟨by simp; omega, .inr ⟨by simp [h1], H1.length, by omega, by simp, by simp, ?_⟩⟩, ⟨by simp; omega, fun k hk' => ?_⟩⟩
    · simp only [appendD, he, hn, hw, hz, Option.bind_some, hadd, hzn]
      simp [hw0, hys, hye, hg, hx, hne, hm, mostBytes]
    · have := hget_app0 (H := H1.set r Ob.dead) (L := [Ob.arr (xs ++ ys)])
      rw [List.length_set] at this
      rw [this]; rfl
    · rw [hget_app_lt (by simp; omega), hget_set_ne (by omega), hk k (by omega)]
theorem vecAt_elems {m : Nat} {d : D} {H : Heap} {xs : List D} (h : VecAt m d H xs) : Vm.elems H d = some xs := by
  obtain ⟨h0, ⟨rfl, rfl⟩ | ⟨h1, r, h2, h4, rfl, h3⟩⟩ := h
  · rfl
  · simp [Vm.elems, h3]
end Go.Proofs.W
end
/- A maker of machines without free steps: how it lies in memory; a set's number. -/
section
set_option maxHeartbeats 4000000
set_option linter.unusedVariables false
set_option linter.unusedSimpArgs false
namespace Go.Proofs.W
open Go Vm Go.Proofs.Zs25

theorem add_two {H : Heap} {a b : D} (ha : strip a = some a) (hb : strip b = some b) : addedD (H ++ [.arr [a, b]]) (.vec H.length 0 2) = some ([a, b], H ++ [.arr [a, b]]) := by
  have : pures (H ++ [.arr [a, b]]) [a, b] = some ([a, b], H ++ [.arr [a, b]]) := pures_strip (by simp [stripL, ha, hb])
  simp [addedD, elems, hget_app0, hget_cons0, this, puresA, nilE_strip ha]
theorem bytesBack_of (s : List UInt8) : bytesBack (bytesOf s) = some s := by
  induction s with
  | nil => rfl
  | cons b s ih =>
    simp only [bytesOf, List.map_cons, bytesBack] at ih ⊢
    rw [ih]
    simp
theorem headBytes (s : List UInt8) : headSize 1 (bytesOf s) = true := by cases s <;> rfl
theorem keyS_app (s : Int) : ∀ (l : List Int), keyS (l ++ [s]) = keyS l ++ [UInt8.ofNat (s.toNat / 256), UInt8.ofNat (s.toNat % 256)]
  | [] => rfl
  | x :: l => by simp only [List.cons_append, keyS, keyS_app s l]
theorem keyS_len : ∀ l : List Int, (keyS l).length = 2 * l.length
  | [] => rfl
  | x :: l => by simp only [keyS, List.length_cons, keyS_len l]; omega
theorem bytes_app (a b : List UInt8) : bytesOf (a ++ b) = bytesOf a ++ bytesOf b := by simp [bytesOf]
theorem bytes_len (a : List UInt8) : (bytesOf a).length = a.length := by simp [bytesOf]
theorem ruleL_ends (n : Nfa) : ∀ (l : List Int) (o : Int), (∀ s ∈ l, 0 ≤ s ∧ s < n.rule.length) → ruleL (n.rule.map (.int .i64)) (l.map (.int .i64)) o = some (bestFrom o (l.map fun s => n.rule.getD s.toNat 0))
  | [], o, h => rfl
  | s :: l, o, h => by
    have hs := h s (by simp)
    obtain ⟨t, ht1, ht2⟩ := ex_at (l := n.rule) (i := s.toNat) 0 (by omega)
    have ih := ruleL_ends n l
    simp only [List.map_cons, ruleL, hs.1, if_true, List.getElem?_map, ht1, Option.map_some, bestFrom_cons, ht2]
    exact ih _ fun x hx => h x (by simp [hx])
/-- a maker: its machine with free steps, rows, rules, the map, sets -/
abbrev dkL (M rm : Nat) (ds : List D) : List D := .ptr M 0 0 :: .map rm :: ds
structure DkAt (M rm : Nat) (n : Nfa) (nx ls : List (List Int)) (ds : List D) (H : Heap) : Prop where
  ms : Ms M ds [nx.map rowD, (ls.map (endsZ n)).map (.int .i64), ls.map isD] H
  hM : hget H M = .arr [.agg [.sl false (n.free.map isD), .sl false (n.set.map (.int .u16)), .sl false (n.to.map (.int .i64)), .sl false (n.rule.map (.int .i64)), ds.getD 0 ud, ds.getD 1 ud, .map rm, ds.getD 2 ud]]
  hm : hget H rm = .map (ents 0 ls)
  rM : rm ≠ M
  ro : ∀ i, rm ∉ objsD (ds.getD i ud)
  rl : rm < H.length
theorem DkAt.keep {M rm : Nat} {n : Nfa} {nx ls : List (List Int)} {ds : List D} {H H' : Heap} (h : DkAt M rm n nx ls ds H) (hl : H.length ≤ H'.length) (hk : ∀ r, own (dkL M rm ds) r → hget H' r = hget H r) : DkAt M rm n nx ls ds H' :=
  ⟨⟨fun i hi => vec_keep (h.ms.v i hi) hl fun r hr => hk r ⟨i + 2, by simpa using hr⟩, h.ms.lenX, h.ms.ap, by have := h.ms.m; omega⟩, by rw [hk M ⟨0, by simp [objsD]⟩]; exact h.hM, by rw [hk rm ⟨1, by simp [objsD]⟩]; exact h.hm, h.rM, h.ro, by have := h.rl; omega⟩
theorem DkAt.lt {M rm : Nat} {n : Nfa} {nx ls : List (List Int)} {ds : List D} {H : Heap} (h : DkAt M rm n nx ls ds H) {r : Nat} (hr : own (dkL M rm ds) r) : r < H.length := by
  obtain ⟨k, hk⟩ := hr
  match k, hk with
  | 0, hk => have : r = M := by simpa [objsD] using hk
             subst this; exact h.ms.m
  | 1, hk => have : r = rm := by simpa [objsD] using hk
             subst this; exact h.rl
  | k + 2, hk => exact h.ms.lt (i := k) (by simpa using hk)
theorem ds_three {ds : List D} (h : 3 = ds.length) : ∃ a b c, ds = [a, b, c] := by
  match ds, h with
  | [a, b, c], _ => exact ⟨a, b, c, rfl⟩
theorem lk_some {H : Heap} {rm : Nat} {es : List (D × D)} {s : List UInt8} {i : Nat} {v : D} (hm : hget H rm = .map es) (hf : findE (.str s) es 0 = some (some (i, v))) : lookupD Tryz.prog 160 H (.map rm) (.str s) true = some (.tup [v, .bool true]) := by
  have hu : Tryz.prog.underlying 160 = some (.map 9 3) := un160
  have hk : keyOk Tryz.prog 9 (.str s) = true := by simp only [keyOk, un9]
  simp only [lookupD, hu, hk, Bool.true_eq_false, if_false, hm, hf, Option.bind_some, Option.map_some, if_true]
theorem lk_none {H : Heap} {rm : Nat} {es : List (D × D)} {s : List UInt8} (hm : hget H rm = .map es) (hf : findE (.str s) es 0 = some none) : lookupD Tryz.prog 160 H (.map rm) (.str s) true = some (.tup [.int .i64 0, .bool false]) := by
  have hu : Tryz.prog.underlying 160 = some (.map 9 3) := un160
  have hk : keyOk Tryz.prog 9 (.str s) = true := by simp only [keyOk, un9]
  have hz : zeroT Tryz.prog 3 = some (.int .i64 0) := zr3
  simp only [lookupD, hu, hk, Bool.true_eq_false, if_false, hm, hf, Option.bind_some, hz, Option.map_some, if_true]
theorem up_none {H : Heap} {rm : Nat} {es : List (D × D)} {s : List UInt8} {v : D} (hm : hget H rm = .map es) (hf : findE (.str s) es 0 = some none) : updateD Tryz.prog 160 H (.map rm) (.str s) v = some (H.set rm (.map (es ++ [(.str s, v)]))) := by
  have hu : Tryz.prog.underlying 160 = some (.map 9 3) := un160
  have hk : keyOk Tryz.prog 9 (.str s) = true := by simp only [keyOk, un9]
  simp only [updateD, hu, hk, Bool.true_eq_false, if_false, hm, hf, Option.map_some]
theorem headIs (ls : List (List Int)) : headSize 1 (ls.map isD) = true := by cases ls <;> rfl
theorem headRows (ls : List (List Int)) (h : ∀ r ∈ ls, r.length = 16) : headSize 16 (ls.map rowD) = true := by
  cases ls with
  | nil => rfl
  | cons r l => simp [headSize, rowD, D.cells, h r (by simp)]
theorem vec_len {d : D} {H : Heap} {xs : List D} (h : VecIs d H xs) {e : TypeId} (HH : Heap) : lenU (some (.slice e)) HH d = some xs.length := by
  rcases h with ⟨rfl, rfl⟩ | ⟨_, r, rfl, _, _⟩ <;> rfl
end Go.Proofs.W
end
/- A maker of machines without free steps: a set's number, walked. -/
section
set_option maxHeartbeats 4000000
set_option linter.unusedVariables false
set_option linter.unusedSimpArgs false
namespace Go.Proofs.W
open Go Vm Go.Proofs.Zs25

theorem sh8' {s : Int} (h0 : 0 ≤ s) (h1 : s < 65536) : IntKind.u8.wrap (s.fdiv 256) = ((UInt8.ofNat (s.toNat / 256)).toNat : Int) := by
  have e : s.fdiv 256 = s / 256 := Int.fdiv_eq_ediv_of_nonneg s (by decide)
  have e2 : (UInt8.ofNat (s.toNat / 256)).toNat = s.toNat / 256 := by rw [UInt8.toNat_ofNat']; omega
  rw [e, e2, IntKind.wrap_u8]
  omega
theorem sh8q {s : Int} (h0 : 0 ≤ s) (h1 : s < 65536) : IntKind.u8.wrap (s.fdiv (2 ^ min 8 64)) = ((UInt8.ofNat (s.toNat / 256)).toNat : Int) := sh8' h0 h1
theorem lo8 {s : Int} (h0 : 0 ≤ s) (h1 : s < 65536) : IntKind.u8.wrap s = ((UInt8.ofNat (s.toNat % 256)).toNat : Int) := by
  have e2 : (UInt8.ofNat (s.toNat % 256)).toNat = s.toNat % 256 := by rw [UInt8.toNat_ofNat']; omega
  rw [e2, IntKind.wrap_u8]
  omega
theorem dstate_ok (M rm : Nat) (n : Nfa) (nx ls : List (List Int)) (ds : List D) (H : Heap) (l : List Int) (h : DkAt M rm n nx ls ds H) (hn : rightN n = true) (hl : ∀ s ∈ l, 0 ≤ s ∧ s < n.set.length) (hsm : ∀ q ∈ ls, small q) (hll : l.length ≤ 3300) (hls : ls.length ≤ 1000) :
    EvF Tryz.prog A 90 [.ptr M 0 0, isD l] H (fun d H' => d = .int .i64 (addS ls l).1 ∧ ∃ ds', DkAt M rm n nx (addS ls l).2 ds' H' ∧ Mv6 (dkL M rm ds) H (dkL M rm ds') H') (fun _ _ => False) := by
  have hrr := right_row hn
  have hsl : small l := fun s hs => by have := hl s hs; omega
  have ew : isD l = .sl false (l.map (.int .i64)) := rfl
  refine evF_inB (n := 78) (rs := [.tmp 4]) Tryz.func90 rfl rfl rfl rfl rfl rfl ?_
  by_cases hne : l = []
  · subst hne
    have e1 : (addS ls []).1 = -1 := by simp [addS]
    have e2 : (addS ls []).2 = ls := by simp [addS]
    rw [e1, e2]
    clear e1 e2 hsl hl
    repeat' (first | refine wz1 ?_ | refine wz2 ?_ | refine wz3 ?_ | refine wz4 ?_ | refine wz5 ?_ | refine wz6 ?_ | simp -dsimp (maxSteps:=999999) (disch:=omega) only[go_sem,simprocAttr, *] | ((first | refine wz8 (fun hh => ?_) (fun hh => ?_) | refine wz9 (fun hh => ?_) (fun hh => ?_) | refine wz7 (fun hh => ?_) (fun hh => ?_)) <;> (try replace hh := vqs hh) <;> (try (exfalso; first | exact hh | omega))))
    exact ⟨ds, h, Mv6.refl⟩
  have hpos : 0 < l.length := by cases l with | nil => exact absurd rfl hne | cons _ _ => simp
  repeat' (first | refine wz1 ?_ | refine wz2 ?_ | refine wz3 ?_ | refine wz4 ?_ | refine wz5 ?_ | refine wz6 ?_ | simp -dsimp (maxSteps:=999999) (disch:=omega) only[go_sem,simprocAttr, *] | ((first | refine wz8 (fun hh => ?_) (fun hh => ?_) | refine wz9 (fun hh => ?_) (fun hh => ?_) | refine wz7 (fun hh => ?_) (fun hh => ?_)) <;> (try replace hh := vqs hh) <;> (try (exfalso; first | exact hh | omega))))
  refine wpB_loop (fun e H1 => ∃ (j : Nat) (db : D), j ≤ l.length ∧ VecAt H.length db H1 (bytesOf (keyS (l.take j))) ∧ Same H.length H H1 ∧ e 0 = .ptr M 0 0 ∧ e 1 = isD l ∧ e 5 = db ∧ e 14 = isD l ∧ e 15 = .int .i64 l.length ∧ e 16 = .int .i64 j) (fun e H => l.length - natOf (e 16)) ?_ ?_
  · exact ⟨0, _, by omega, VecAt.nil (Nat.le_refl _), Same.refl, gs, gs, gs, gs, gs, gs⟩
  rintro e H1 ⟨j, db, hj, hv, hs, e0, e1, e5, e14, e15, e16⟩ R hR
  by_cases hb : j < l.length
  · obtain ⟨b0, b1⟩ := hsl l[j] (List.getElem_mem hb)
    have hx : (l.map (D.int .i64))[j]? = some (.int .i64 l[j]) := by simp [hb]
    have htk : keyS (l.take (j + 1)) = keyS (l.take j) ++ [UInt8.ofNat (l[j].toNat / 256), UInt8.ofNat (l[j].toNat % 256)] := by rw [take_succ' hb, keyS_app]
    have hkl : (bytesOf (keyS (l.take j))).length ≤ 6600 := by rw [bytes_len, keyS_len, List.length_take]; omega
    have ha := vecAt_appendL (t := 37) (H1 := H1 ++ [.arr [.int .u8 ((UInt8.ofNat (l[j].toNat / 256)).toNat : Int), .int .u8 ((UInt8.ofNat (l[j].toNat % 256)).toNat : Int)]]) el37 sz5 by5 zr5 rfl (by decide) hv (by simp) (fun r hr => hget_app_lt hr) (add_two rfl rfl) (by simp) rfl (headBytes _) (by simp; omega)
    rw [show bytesOf (keyS (l.take j)) ++ [D.int .u8 ((UInt8.ofNat (l[j].toNat / 256)).toNat : Int), D.int .u8 ((UInt8.ofNat (l[j].toNat % 256)).toNat : Int)] = bytesOf (keyS (l.take (j + 1))) by rw [htk, bytes_app]; rfl, ← sh8q b0 b1, ← lo8 b0 b1] at ha
    obtain ⟨d', H2, ha, hv2, hs2⟩ := ha
    have hs3 := hs.trans hs2
    clear hs2 hv htk hsl hl hsm h hrr
    generalize l[j] = x at *
    repeat' (first | refine wz1 ?_ | refine wz2 ?_ | refine wz3 ?_ | refine wz4 ?_ | refine wz5 ?_ | refine wz6 ?_ | simp -dsimp (maxSteps:=999999) (disch:=omega) only[go_sem,simprocAttr, *] | ((first | refine wz8 (fun hh => ?_) (fun hh => ?_) | refine wz9 (fun hh => ?_) (fun hh => ?_) | refine wz7 (fun hh => ?_) (fun hh => ?_)) <;> (try replace hh := vqs hh) <;> (try (exfalso; first | exact hh | omega))))
    refine hR _ _ ⟨j + 1, d', by omega, hv2, hs3, gs, gs, gs, gs, gs, gs⟩ ?_
    simp -dsimp (maxSteps:=999999) (disch:=omega) only[go_sem,simprocAttr, *,natOf_int]
  rw [List.take_of_length_le (by omega)] at hv
  have hel := vecAt_elems hv
  have hbb := bytesBack_of (keyS l)
  have hk : DkAt M rm n nx ls ds H1 := h.keep hs.1 fun r hr => hs.2 r (h.lt hr)
  have hmv : Mv6 (dkL M rm ds) H (dkL M rm ds) H1 := ⟨fun r hr _ => hs.2 r hr, hs.1, fun _ h => .inl h⟩
  have hf := find_ents hsl ls 0 0 hsm
  clear hv hs h
  cases hp : placeS l 0 ls with
  | some j =>
    rw [hp] at hf
    simp only [Option.map_some] at hf
    have hlk := lk_some hk.hm hf
    have e1 : addS ls l = ((j : Int), ls) := by simp [addS, hne, hp]
    rw [e1]
    have hM := hk.hM
    clear hf hp e1
    repeat' (first | refine wz1 ?_ | refine wz2 ?_ | refine wz3 ?_ | refine wz4 ?_ | refine wz5 ?_ | refine wz6 ?_ | simp -dsimp (maxSteps:=999999) (disch:=omega) only[go_sem,simprocAttr, *] | ((first | refine wz8 (fun hh => ?_) (fun hh => ?_) | refine wz9 (fun hh => ?_) (fun hh => ?_) | refine wz7 (fun hh => ?_) (fun hh => ?_)) <;> (try replace hh := vqs hh) <;> (try (exfalso; first | exact hh | omega))))
    exact ⟨ds, hk, hmv⟩
  | none =>
    rw [hp] at hf
    simp only [Option.map_none] at hf
    have hlk := lk_none hk.hm hf
    have hup := up_none (v := .int .i64 ls.length) hk.hm hf
    have e1 : addS ls l = ((ls.length : Int), ls ++ [l]) := by simp [addS, hne, hp]
    have e2 := ents_app ls 0 l
    rw [Nat.zero_add] at e2
    rw [e1]
    rw [← e2] at hup
    obtain ⟨dN, dR, dS, rfl⟩ := ds_three hk.ms.lenX
    have hM := hk.hM
    simp only [List.getD_cons_zero, List.getD_cons_succ] at hM
    have hlen := fun HH => vec_len (e := 38) (hk.ms.v 2 (by simp)) HH
    simp only [List.getD_cons_zero, List.getD_cons_succ, List.length_map] at hlen
    have g1 : Ms M [dN, dR, dS] [nx.map rowD, (ls.map (endsZ n)).map (.int .i64), ls.map isD] (H1.set rm (.map (ents 0 (ls ++ [l])))) :=
      ⟨fun i hi => vec_keep (hk.ms.v i hi) (by simp) fun r hr => hget_set_ne (fun e => hk.ro i (e ▸ hr)), hk.ms.lenX, hk.ms.ap, by simpa using hk.ms.m⟩
    have g2 : hget (H1.set rm (.map (ents 0 (ls ++ [l])))) M = _ := (hget_set_ne hk.rM).trans hM
    have g3 : hget (H1.set rm (.map (ents 0 (ls ++ [l])))) rm = .map (ents 0 (ls ++ [l])) := hget_set_eq hk.rl
    have g4 : (H1.set rm (.map (ents 0 (ls ++ [l])))).length = H1.length := by simp
    have g5 : ∀ r, r ≠ rm → hget (H1.set rm (.map (ents 0 (ls ++ [l])))) r = hget H1 r := fun r h => hget_set_ne (Ne.symm h)
    generalize hG2 : H1.set rm (.map (ents 0 (ls ++ [l]))) = H2 at *
    obtain ⟨d3, H3, a3, m3, M3, l3, k3, f3, o1, o2, o3⟩ := g1.app (p := 2) (by simp) (H1 := H2 ++ [.arr [.sl false (l.map (.int .i64))]]) el153 sz38 by38 zr38 rfl (by decide) (by simp) (fun r hr => hget_app_lt hr) (add_new (.inl (strip_is l))) rfl (headIs ls) (by simp; omega)
    rw [g2] at M3
    simp only [List.set_cons_zero, List.set_cons_succ, List.getD_cons_zero, List.getD_cons_succ] at m3 a3 k3
    have w3 := m3.m
    have c3 : hget (H3.set M (.arr [.agg [.sl false (n.free.map isD), .sl false (n.set.map (.int .u16)), .sl false (n.to.map (.int .i64)), .sl false (n.rule.map (.int .i64)), dN, dR, .map rm, d3]])) M = .arr [.agg [.sl false (n.free.map isD), .sl false (n.set.map (.int .u16)), .sl false (n.to.map (.int .i64)), .sl false (n.rule.map (.int .i64)), dN, dR, .map rm, d3]] := hget_set_eq w3
    have e3 : (H3.set M (.arr [.agg [.sl false (n.free.map isD), .sl false (n.set.map (.int .u16)), .sl false (n.to.map (.int .i64)), .sl false (n.rule.map (.int .i64)), dN, dR, .map rm, d3]])).length = H3.length := by simp
    have z3 : ∀ r, r ≠ M → hget (H3.set M (.arr [.agg [.sl false (n.free.map isD), .sl false (n.set.map (.int .u16)), .sl false (n.to.map (.int .i64)), .sl false (n.rule.map (.int .i64)), dN, dR, .map rm, d3]])) r = hget H3 r := fun r h => hget_set_ne (Ne.symm h)
    replace m3 := m3.setM (.arr [.agg [.sl false (n.free.map isD), .sl false (n.set.map (.int .u16)), .sl false (n.to.map (.int .i64)), .sl false (n.rule.map (.int .i64)), dN, dR, .map rm, d3]])
    generalize hG3 : H3.set M (.arr [.agg [.sl false (n.free.map isD), .sl false (n.set.map (.int .u16)), .sl false (n.to.map (.int .i64)), .sl false (n.rule.map (.int .i64)), dN, dR, .map rm, d3]]) = J3 at m3 c3 e3 z3
    have hru : ruleG [.ptr M 0 0, .sl false (l.map (.int .i64))] (([D.ptr M 0 0, .sl false (l.map (.int .i64))].flatMap objsD).map (hget J3)) = some (.int .i64 (endsZ n l)) := by
      have e := ruleL_ends n l (-1) (fun s hs => by have := hl s hs; omega)
      have e0 : ([D.ptr M 0 0, .sl false (l.map (.int .i64))].flatMap objsD).map (hget J3) = [hget J3 M] := rfl
      rw [e0, c3]
      simp only [ruleG]
      rw [if_pos (by simp; omega), e]; rfl
    obtain ⟨d4, H4, a4, m4, M4, l4, k4, f4, p1, p2, p3⟩ := m3.app (p := 1) (by simp) (H1 := J3) (y := .sl false [.int .i64 (endsZ n l)]) el38 sz3 by3 zr3 rfl (by decide) (Nat.le_refl _) (fun r hr => rfl) (add_lit rfl) rfl (headInts _) (by simp; omega)
    rw [c3] at M4
    simp only [List.set_cons_zero, List.set_cons_succ, List.getD_cons_zero, List.getD_cons_succ] at m4 a4 k4
    have w4 := m4.m
    have hend : DkAt M rm n nx (ls ++ [l]) [dN, d4, d3] (H4.set M (.arr [.agg [.sl false (n.free.map isD), .sl false (n.set.map (.int .u16)), .sl false (n.to.map (.int .i64)), .sl false (n.rule.map (.int .i64)), dN, d4, .map rm, d3]])) ∧ Mv6 (dkL M rm [dN, dR, dS]) H (dkL M rm [dN, d4, d3]) (H4.set M (.arr [.agg [.sl false (n.free.map isD), .sl false (n.set.map (.int .u16)), .sl false (n.to.map (.int .i64)), .sl false (n.rule.map (.int .i64)), dN, d4, .map rm, d3]])) := by
      have hrl := hk.rl
      simp only [List.length_append, List.length_cons, List.length_nil] at l3
      have ro : ∀ i, rm ∉ objsD ([dN, d4, d3].getD i ud) := fun i hi => by
        match i, hi with
        | 0, hi => exact hk.ro 0 hi
        | 1, hi => have := f4 rm (by simpa using hi); omega
        | 2, hi => have := f3 rm (by simpa using hi); omega
        | i + 3, hi => simp [ud, objsD] at hi
      refine ⟨⟨by simpa using m4.setM _, by rw [hget_set_eq w4]; rfl, ?_, hk.rM, ro, by simp; omega⟩, hmv.trans ⟨fun r hr ho => ?_, by simp; omega, fun r ho => ?_⟩⟩
      · rw [hget_set_ne (Ne.symm hk.rM), k4 rm (by omega) (hk.ro 1), z3 rm hk.rM, k3 rm (by omega) (hk.ro 2), g3]
      · have h0 : r ≠ M := fun e => ho ⟨0, by simp [objsD, e]⟩
        have h1 : r ≠ rm := fun e => ho ⟨1, by simp [objsD, e]⟩
        have h2 : r ∉ objsD dR := fun e => ho ⟨3, e⟩
        have h3 : r ∉ objsD dS := fun e => ho ⟨4, e⟩
        rw [hget_set_ne (Ne.symm h0), k4 r (by omega) h2, z3 r h0, k3 r (by omega) h3, g5 r h1]
      · obtain ⟨k, hk'⟩ := ho
        match k, hk' with
        | 0, hk' => exact .inl ⟨0, hk'⟩
        | 1, hk' => exact .inl ⟨1, hk'⟩
        | 2, hk' => exact .inl ⟨2, hk'⟩
        | 3, hk' => have := f4 r (by simpa using hk'); exact .inr (by omega)
        | 4, hk' => have := f3 r (by simpa using hk'); exact .inr (by omega)
        | k + 5, hk' => simp [ud, objsD] at hk'
    clear m3 m4 k3 k4 f3 f4 e3 z3 l3 l4 w3 w4 g1 g3 g4 g5 e1 e2 hf hp hmv hk hl hsl hsm hrr
    repeat' (first | refine wz1 ?_ | refine wz2 ?_ | refine wz3 ?_ | refine wz4 ?_ | refine wz5 ?_ | refine wz6 ?_ | simp -dsimp (maxSteps:=999999) (disch:=omega) only[go_sem,simprocAttr, *] | ((first | refine wz8 (fun hh => ?_) (fun hh => ?_) | refine wz9 (fun hh => ?_) (fun hh => ?_) | refine wz7 (fun hh => ?_) (fun hh => ?_)) <;> (try replace hh := vqs hh) <;> (try (exfalso; first | exact hh | omega))))
    refine wpB_regionXL (prs := []) (by kernel_rfl) rfl (by kernel_rfl) ?_; simp -dsimp (maxSteps:=999999) (disch:=omega) only[go_sem,simprocAttr, *]
    refine ⟨fun h => Bool.noConfusion (show false = true from h), evB_rd (g := ruleG) bo117 rfl hru ?_⟩
    clear hru
    repeat' (first | refine wz1 ?_ | refine wz2 ?_ | refine wz3 ?_ | refine wz4 ?_ | refine wz5 ?_ | refine wz6 ?_ | simp -dsimp (maxSteps:=999999) (disch:=omega) only[go_sem,simprocAttr, *] | ((first | refine wz8 (fun hh => ?_) (fun hh => ?_) | refine wz9 (fun hh => ?_) (fun hh => ?_) | refine wz7 (fun hh => ?_) (fun hh => ?_)) <;> (try replace hh := vqs hh) <;> (try (exfalso; first | exact hh | omega))))
    refine ⟨rfl, ?_⟩
    repeat' (first | refine wz1 ?_ | refine wz2 ?_ | refine wz3 ?_ | refine wz4 ?_ | refine wz5 ?_ | refine wz6 ?_ | simp -dsimp (maxSteps:=999999) (disch:=omega) only[go_sem,simprocAttr, *] | ((first | refine wz8 (fun hh => ?_) (fun hh => ?_) | refine wz9 (fun hh => ?_) (fun hh => ?_) | refine wz7 (fun hh => ?_) (fun hh => ?_)) <;> (try replace hh := vqs hh) <;> (try (exfalso; first | exact hh | omega))))
    exact ⟨_, hend⟩
end Go.Proofs.W
end
/- The machine without free steps of expressions, walked. -/
section
set_option maxHeartbeats 4000000
set_option linter.unusedVariables false
set_option linter.unusedSimpArgs false
namespace Go.Proofs.W
open Go Vm Go.Proofs.Zs25

theorem strip_rxsD' (l : List Rx) : stripL [rxsD l] = some [rxsD l] := strip1 (by simp [rxsD, strip, strip_rxs])
noncomputable def dbuild (l : List Rx) : Dfa × Int :=
  match buildN l with
  | none => (⟨[], []⟩, 1)
  | some n => match runB n 202 0 [clos n [0]] [] with
    | none => (⟨[], []⟩, 7)
    | some (ls, nx) => (mkDfa n ls nx, 0)
def dbD (x : Dfa × Int) : D := .tup [dfaD x.1, .int .i64 x.2]
theorem out_dk {dN dR : D} {H : Heap} {nx : List (List Int)} {rl : List Int} (hN : VecIs dN H (nx.map rowD)) (hR : VecIs dR H (rl.map (.int .i64))) (e : Int) : outPure H (.tup [.agg [dN, dR], .int .i64 e]) = some (dbD (⟨nx, rl⟩, e)) := by
  have vN := vecIs_a hN
  have vR := vecIs_a hR
  have hz : ∀ {d : D} {xs : List D}, VecA d H xs → strip d = none ∨ (d = .sl true [] ∧ xs = []) := fun {d xs} h => by
    rcases h with ⟨h1, h2⟩ | ⟨r, h1, _⟩
    · exact .inr ⟨h2, h1⟩
    · exact .inl (by rw [h1]; rfl)
  by_cases hn : stripL [dN, dR] = none
  · obtain ⟨H1, p1, s1, l1⟩ := pur_plainA (k := 2) vN (strip_rows nx)
    obtain ⟨H2, p2, s2, l2⟩ := pur_plainA (k := 2) (vR.soft s1 l1) (strip_ints rl)
    have hnone2 : stripL [D.agg [dN, dR], .int .i64 e] = none := by rw [stripL, strip, hn]; rfl
    unfold outPure deepest
    rw [pur_tup hnone2]
    simp only [purL]
    rw [pur_agg' hn]
    simp only [purL, p1, p2, Option.bind_some, Option.map_some]
    rw [pur_strip (show strip (.int .i64 e) = some (.int .i64 e) from rfl)]
    rfl
  · rcases hz vN with h1 | ⟨rfl, h1⟩
    · exact absurd (by simp [stripL, h1]) hn
    · rcases hz vR with h2 | ⟨rfl, h2⟩
      · exact absurd (by simp [stripL, h2, strip]) hn
      · have e1 : nx = [] := by simpa using h1
        have e2 : rl = [] := by simpa using h2
        subst e1; subst e2
        rfl
theorem stepN_eq {n : Nfa} (hn : rightN n = true) (c : Int) (l : List Int) : stepN n c l = stp n c l := by rw [stepN, if_pos hn]
theorem closeN_eq {n : Nfa} (hn : rightN n = true) (l : List Int) : closeN n l = clos n l := by rw [closeN, if_pos hn]
/-- a row, filled so far -/
def rowZ (r : List Int) (j : Nat) : List Int := r ++ List.replicate (16 - j) 0
theorem rowZ_len {r : List Int} {j : Nat} (h : r.length = j) (hj : j ≤ 16) : (rowZ r j).length = 16 := by simp [rowZ, h]; omega
theorem rowZ_set {r : List Int} {j : Nat} (h : r.length = j) (hj : j < 16) (x : Int) : (rowZ r j).take j ++ x :: (rowZ r j).drop (j + 1) = rowZ (r ++ [x]) (j + 1) := by
  subst h
  unfold rowZ
  rw [List.take_append_of_le_length (Nat.le_refl _), List.take_length, List.drop_append, List.drop_of_length_le (by omega)]
  simp only [List.nil_append, List.drop_replicate, List.append_assoc, List.cons_append]
  congr 3
  omega
theorem small_good {n : Nfa} (hn : rightN n = true) {q : List Int} (h : GoodS n q) : small q := fun s hs => by
  obtain ⟨_, l, rfl⟩ := h
  have := clos_in hs
  have := right_row hn
  omega
theorem zrN7 : zeroT Tryz.prog 156 = some (.agg [.sl true [], .sl true [], .sl true [], .sl true []]) := by kernel_rfl
theorem zrD7 : zeroT Tryz.prog 77 = some (.agg [.sl true [], .sl true []]) := by kernel_rfl
theorem zrR7 : zeroT Tryz.prog 113 = some (rowD (rowZ [] 0)) := by kernel_rfl
theorem zrM7 : zeroT Tryz.prog 162 = some (.agg [.sl true [], .sl true [], .sl true [], .sl true [], .sl true [], .sl true [], .nilm, .sl true []]) := by kernel_rfl
theorem not_own0 {k : Nat} (hk : k ≠ 2 ∧ k ≠ 3) : ¬ own (dkL 3 2 [.sl true [], .sl true [], .sl true []]) k := by
  rintro ⟨i, hi⟩
  match i, hi with
  | 0, hi => have : k = 3 := by simpa [objsD] using hi
             omega
  | 1, hi => have : k = 2 := by simpa [objsD] using hi
             omega
  | 2, hi => cases hi
  | 3, hi => cases hi
  | 4, hi => cases hi
  | i + 5, hi => simp [ud, objsD] at hi
theorem dk_zero (n : Nfa) (L : Heap) (a b : Ob) : DkAt 3 2 n [] [] [.sl true [], .sl true [], .sl true []] (a :: b :: .map [] :: .arr [.agg [.sl false (n.free.map isD), .sl false (n.set.map (.int .u16)), .sl false (n.to.map (.int .i64)), .sl false (n.rule.map (.int .i64)), .sl true [], .sl true [], .map 2, .sl true []]] :: L) := by
  refine ⟨⟨fun i hi => ?_, rfl, fun i j hij r hi hj => ?_, by simp⟩, rfl, rfl, by omega, fun i hi => ?_, by simp⟩
  · match i, hi with
    | 0, _ => exact VecIs.nil
    | 1, _ => exact VecIs.nil
    | 2, _ => exact VecIs.nil
  · match i, j with
    | 0, 0 => exact hij rfl
    | 0, 1 => cases hj
    | 0, 2 => cases hj
    | 0, 3 => cases hj
    | 0, j + 4 => simp [ud, objsD] at hj
    | 1, _ => cases hi
    | 2, _ => cases hi
    | 3, _ => cases hi
    | i + 4, _ => simp [ud, objsD] at hi
  · match i, hi with
    | 0, hi => cases hi
    | 1, hi => cases hi
    | 2, hi => cases hi
    | i + 3, hi => simp [ud, objsD] at hi
theorem mkMap7 (H : Heap) : makeMapD Tryz.prog 160 none H = some (.map H.length, H ++ [.map []]) := by
  simp only [makeMapD, un160]
theorem bdD0 : buildD Tryz.prog 77 [] = some (.agg [.sl true [], .sl true []]) := by kernel_rfl
theorem bdM7 (n : Nfa) : buildD Tryz.prog 162 [(0, nfaD n), (2, D.map 2)] = some (.agg [.sl false (n.free.map isD), .sl false (n.set.map (.int .u16)), .sl false (n.to.map (.int .i64)), .sl false (n.rule.map (.int .i64)), .sl true [], .sl true [], .map 2, .sl true []]) := by kernel_rfl
set_option maxRecDepth 20000 in
theorem dbuild_ok (l : List Rx) (hl : l.length ≤ 16 → ∀ r ∈ l, okR r) (hll : l.length ≤ 100000) : PureF Tryz.prog A 70 [rxsD l] (dbD (dbuild l)) := by
  have hB := build_okS l hl hll
  refine evF_inB (n := 80) (rs := [.cell 2 77, .tmp 3]) Tryz.func70 rfl rfl rfl rfl rfl rfl ?_
  repeat' (first | refine wz1 ?_ | refine wz2 ?_ | refine wz3 ?_ | refine wz4 ?_ | refine wz5 ?_ | refine wz6 ?_ | simp -dsimp (maxSteps:=999999) (disch:=omega) only[go_sem,simprocAttr, *,zrN7, zrD7] | ((first | refine wz8 (fun hh => ?_) (fun hh => ?_) | refine wz9 (fun hh => ?_) (fun hh => ?_) | refine wpB_cond (by simp -dsimp (maxSteps:=999999) (disch:=omega) only[go_sem,simprocAttr, *,zrN7, zrD7]; exact rfl) (fun hh => ?_) (fun hh => ?_)) <;> (try replace hh := vqs hh) <;> (try (exfalso; first | exact hh | omega))))
  refine evB_plain bo89 rfl rfl (strip_rxsD' l) hB ?_
  unfold dbuild
  cases hb : buildN l with
  | none =>
    have a1 := nfa_noTup emptyN
    have a2 : (nfaD emptyN).cells = [.sl false (emptyN.free.map isD), .sl false (emptyN.set.map (.int .u16)), isD emptyN.to, isD emptyN.rule] := rfl
    have a3 := nfa_aggQ emptyN
    repeat' (first | refine wz1 ?_ | refine wz2 ?_ | refine wz3 ?_ | refine wz4 ?_ | refine wz5 ?_ | refine wz6 ?_ | simp -dsimp (maxSteps:=999999) (disch:=omega) only[go_sem,simprocAttr, *,builtD, zrN7, zrD7, bdD0] | ((first | refine wz8 (fun hh => ?_) (fun hh => ?_) | refine wz9 (fun hh => ?_) (fun hh => ?_) | refine wpB_cond (by simp -dsimp (maxSteps:=999999) (disch:=omega) only[go_sem,simprocAttr, *,builtD, zrN7, zrD7, bdD0]; exact rfl) (fun hh => ?_) (fun hh => ?_)) <;> (try replace hh := vqs hh) <;> (try (exfalso; first | exact hh | omega))))
    exact outPure_strip rfl
  | some n =>
    obtain ⟨-, g2, g3, g4⟩ := build_right hb
    have a1 := nfa_noTup n
    have a2 : (nfaD n).cells = [.sl false (n.free.map isD), .sl false (n.set.map (.int .u16)), .sl false (n.to.map (.int .i64)), .sl false (n.rule.map (.int .i64))] := rfl
    have a3 := nfa_aggQ n
    have hC0 := close_ok n [0] g2 (by simp)
    rw [closeN_eq g3] at hC0
    have hrr := right_row g3
    clear hB hl hb
    simp only
    generalize hG : runB n 202 0 [clos n [0]] [] = G
    replace hG : Hid (runB n 202 0 [clos n [0]] [] = G) := hG
    repeat' (first | refine wz1 ?_ | refine wz2 ?_ | refine wz3 ?_ | refine wz4 ?_ | refine wz5 ?_ | refine wz6 ?_ | simp -dsimp (maxSteps:=999999) (disch:=omega) only[go_sem,simprocAttr, *,builtD, zrN7, zrD7, zrM7, mkMap7, bdM7] | ((first | refine wz8 (fun hh => ?_) (fun hh => ?_) | refine wz9 (fun hh => ?_) (fun hh => ?_) | refine wpB_cond (by simp -dsimp (maxSteps:=999999) (disch:=omega) only[go_sem,simprocAttr, *,builtD, zrN7, zrD7, zrM7, mkMap7, bdM7]; exact rfl) (fun hh => ?_) (fun hh => ?_)) <;> (try replace hh := vqs hh) <;> (try (exfalso; first | exact hh | omega))))
    refine evB_pureK bo91 rfl rfl (pures_one (H := [Ob.arr [D.agg [D.sl true [], D.sl true []]], Ob.arr [nfaD n], Ob.map [], Ob.arr [.agg [.sl false (n.free.map isD), .sl false (n.set.map (.int .u16)), .sl false (n.to.map (.int .i64)), .sl false (n.rule.map (.int .i64)), .sl true [], .sl true [], .map 2, .sl true []]]]) (strip_nfa n) rfl rfl) hC0 ?_
    intro H1 hH1
    obtain ⟨ob, rfl⟩ : ∃ ob, H1 = [Ob.arr [D.agg [D.sl true [], D.sl true []]], Ob.arr [nfaD n], Ob.map [], Ob.arr [.agg [.sl false (n.free.map isD), .sl false (n.set.map (.int .u16)), .sl false (n.to.map (.int .i64)), .sl false (n.rule.map (.int .i64)), .sl true [], .sl true [], .map 2, .sl true []]], ob] := by
      rcases hH1 with rfl | rfl <;> exact ⟨_, rfl⟩
    clear hH1 hC0
    have hz := clos_zero (n := n) (by omega)
    have hS := dstate_ok 3 2 n [] [] _ _ (clos n [0]) (dk_zero n [ob] (Ob.arr [D.agg [D.sl true [], D.sl true []]]) (Ob.arr [nfaD n])) g3 (fun s hs => clos_in hs) (by simp) (by have := clos_len n [0]; omega) (by simp)
    have hfst : addS [] (clos n [0]) = (0, [clos n [0]]) := by simp [addS, hz, placeS]
    rw [hfst] at hS
    repeat' (first | refine wz1 ?_ | refine wz2 ?_ | refine wz3 ?_ | refine wz4 ?_ | refine wz5 ?_ | refine wz6 ?_ | simp -dsimp (maxSteps:=999999) (disch:=omega) only[go_sem,simprocAttr, *] | ((first | refine wz8 (fun hh => ?_) (fun hh => ?_) | refine wz9 (fun hh => ?_) (fun hh => ?_) | refine wz7 (fun hh => ?_) (fun hh => ?_)) <;> (try replace hh := vqs hh) <;> (try (exfalso; first | exact hh | omega))))
    refine evB_state bo90 rfl rfl hS ?_ (fun _ _ h => h.elim)
    rintro _ H1 ⟨rfl, ds1, hd1, hv1⟩
    have hI := done_zero hz
    have h01 : hget H1 0 = .arr [.agg [.sl true [], .sl true []]] := by rw [hv1.keep 0 (by simp) (not_own0 (by omega))]; rfl
    have h11 : hget H1 1 = .arr [nfaD n] := by rw [hv1.keep 1 (by simp) (not_own0 (by omega))]; rfl
    have hn0 : ¬ own (dkL 3 2 ds1) 0 := fun ho => by
      rcases hv1.ow 0 ho with h | h
      · exact not_own0 (by omega) h
      · simp at h
    have hn1 : ¬ own (dkL 3 2 ds1) 1 := fun ho => by
      rcases hv1.ow 1 ho with h | h
      · exact not_own0 (by omega) h
      · simp at h
    clear hv1 hS hfst
    repeat' (first | refine wz1 ?_ | refine wz2 ?_ | refine wz3 ?_ | refine wz4 ?_ | refine wz5 ?_ | refine wz6 ?_ | simp -dsimp (maxSteps:=999999) (disch:=omega) only[go_sem,simprocAttr, *] | ((first | refine wz8 (fun hh => ?_) (fun hh => ?_) | refine wz9 (fun hh => ?_) (fun hh => ?_) | refine wz7 (fun hh => ?_) (fun hh => ?_)) <;> (try replace hh := vqs hh) <;> (try (exfalso; first | exact hh | omega))))
    refine wpB_loop (fun e Hi => ∃ (k i : Nat) (ls nx : List (List Int)) (ds : List D), k + i = 202 ∧ DoneI n i ls nx ∧ ls.length ≤ 200 ∧ DkAt 3 2 n nx ls ds Hi ∧ hget Hi 0 = .arr [.agg [.sl true [], .sl true []]] ∧ hget Hi 1 = .arr [nfaD n] ∧ ¬ own (dkL 3 2 ds) 0 ∧ ¬ own (dkL 3 2 ds) 1 ∧ G = runB n k i ls nx ∧ e 2 = .ptr 0 0 0 ∧ e 4 = .ptr 1 0 0 ∧ e 6 = .ptr 3 0 0 ∧ e 7 = .int .i64 i) (fun e H => 202 - natOf (e 7)) ?_ ?_
    · exact ⟨202, 0, _, _, ds1, by omega, hI, by simp, hd1, h01, h11, hn0, hn1, Eq.symm hG, gs, gs, gs, gs⟩
    clear hG hI hd1 h01 h11 hn0 hn1 hz
    rintro e Hi ⟨k, i, ls, nx, ds, hk, hI, hls, hd, h0, h1, hn0, hn1, hG, e2, e4, e6, e7⟩ R hR
    obtain ⟨k, rfl⟩ : ∃ k', k = k' + 1 := ⟨k - 1, by have := hI.le; omega⟩
    obtain ⟨dN, dR, dS, rfl⟩ := ds_three hd.ms.lenX
    have hM := hd.hM
    simp only [List.getD_cons_zero, List.getD_cons_succ] at hM
    have hlen := fun HH => vec_len (e := 38) (hd.ms.v 2 (by simp)) HH
    simp only [List.getD_cons_zero, List.getD_cons_succ, List.length_map] at hlen
    rw [runB] at hG
    by_cases hb : i < ls.length
    case neg =>
      rw [if_neg hb] at hG
      subst hG
      have hvN := hd.ms.v 0 (by simp)
      have hvR := hd.ms.v 1 (by simp)
      simp only [List.getD_cons_zero, List.getD_cons_succ] at hvN hvR
      have hl0 := lt_of_hget h0
      have k1 : ∀ ob, VecIs dN (Hi.set 0 ob) (nx.map rowD) := fun ob => vec_keep hvN (by simp) fun r hr => hget_set_ne fun e => hn0 (e ▸ ⟨2, by simpa using hr⟩)
      have k2 : ∀ ob, VecIs dR (Hi.set 0 ob) ((ls.map (endsZ n)).map (.int .i64)) := fun ob => vec_keep hvR (by simp) fun r hr => hget_set_ne fun e => hn0 (e ▸ ⟨3, by simpa using hr⟩)
      have hout := fun ob => out_dk (k1 ob) (k2 ob) 0
      clear k1 k2 hvN hvR hd
      repeat' (first | refine wz1 ?_ | refine wz2 ?_ | refine wz3 ?_ | refine wz4 ?_ | refine wz5 ?_ | refine wz6 ?_ | simp -dsimp (maxSteps:=999999) (disch:=omega) only[go_sem,simprocAttr, *] | ((first | refine wz8 (fun hh => ?_) (fun hh => ?_) | refine wz9 (fun hh => ?_) (fun hh => ?_) | refine wz7 (fun hh => ?_) (fun hh => ?_)) <;> (try replace hh := vqs hh) <;> (try (exfalso; first | exact hh | omega))))
      exact hout _
    rw [if_pos hb] at hG
    obtain ⟨q, hq⟩ : ∃ q, ls[i]? = some q := ⟨_, List.getElem?_eq_getElem hb⟩
    have hqd : ls.getD i [] = q := by simp [List.getD_eq_getElem?_getD, hq]
    rw [hqd] at hG
    have hIs := hI.step hb
    rw [hqd] at hIs
    repeat' (first | refine wz1 ?_ | refine wz2 ?_ | refine wz3 ?_ | refine wz4 ?_ | refine wz5 ?_ | refine wz6 ?_ | simp -dsimp (maxSteps:=999999) (disch:=omega) only[go_sem,simprocAttr, *,zrR7] | ((first | refine wz8 (fun hh => ?_) (fun hh => ?_) | refine wz9 (fun hh => ?_) (fun hh => ?_) | refine wpB_cond (by simp -dsimp (maxSteps:=999999) (disch:=omega) only[go_sem,simprocAttr, *,zrR7]; exact rfl) (fun hh => ?_) (fun hh => ?_)) <;> (try replace hh := vqs hh) <;> (try (exfalso; first | exact hh | omega))))
    have hrl : hget (Hi ++ [Ob.arr [rowD (rowZ [] 0)]]) Hi.length = .arr [rowD (rowZ [] 0)] := hget_new
    have hdr : DkAt 3 2 n nx ls [dN, dR, dS] (Hi ++ [Ob.arr [rowD (rowZ [] 0)]]) := hd.keep (by simp) fun r hr => hget_app_lt (hd.lt hr)
    have hnr : ¬ own (dkL 3 2 [dN, dR, dS]) Hi.length := fun ho => by have := hd.lt ho; omega
    have h0r : hget (Hi ++ [Ob.arr [rowD (rowZ [] 0)]]) 0 = .arr [.agg [.sl true [], .sl true []]] := by rw [hget_app_lt (lt_of_hget h0), h0]
    have h1r : hget (Hi ++ [Ob.arr [rowD (rowZ [] 0)]]) 1 = .arr [nfaD n] := by rw [hget_app_lt (lt_of_hget h1), h1]
    have hr0 : Hi.length ≠ 0 := by have := lt_of_hget h0; omega
    have hr1 : Hi.length ≠ 1 := by have := lt_of_hget h1; omega
    have hrl2 : Hi.length < (Hi ++ [Ob.arr [rowD (rowZ [] 0)]]).length := by simp
    generalize hrr8 : Hi.length = r8 at *
    generalize Hi ++ [Ob.arr [rowD (rowZ [] 0)]] = Hr at *
    have hgood := rowTo_good (s := q) hI.good
    have hold := rowTo_old n q ls
    have hlen2 := rowTo_len n q ls
    refine wpB_loop (fun e Hj => ∃ (j : Nat) (ds : List D), j ≤ 16 ∧ DkAt 3 2 n nx (rowTo n q ls j).2 ds Hj ∧ hget Hj 0 = .arr [.agg [.sl true [], .sl true []]] ∧ hget Hj 1 = .arr [nfaD n] ∧ hget Hj r8 = .arr [rowD (rowZ (rowTo n q ls j).1 j)] ∧ ¬ own (dkL 3 2 ds) 0 ∧ ¬ own (dkL 3 2 ds) 1 ∧ ¬ own (dkL 3 2 ds) r8 ∧ e 2 = .ptr 0 0 0 ∧ e 4 = .ptr 1 0 0 ∧ e 6 = .ptr 3 0 0 ∧ e 7 = .int .i64 i ∧ e 8 = .ptr r8 0 0 ∧ e 37 = .int .i64 j) (fun e H => 16 - natOf (e 37)) ?_ ?_
    · exact ⟨0, _, by omega, hdr, h0r, h1r, hrl, hn0, hn1, hnr, gs, gs, gs, gs, gs, gs⟩
    have e7o := e7
    clear hdr hrl h0r h1r hn0 hn1 hnr hrl2 hM hlen hd h0 h1 e2 e4 e6 e7
    rintro e Hj ⟨j, ds, hj, hd, h0, h1, h8, hn0, hn1, hn8, e2, e4, e6, e7, e8, e37⟩ R2 hR2
    obtain ⟨dN, dR, dS, rfl⟩ := ds_three hd.ms.lenX
    have hM := hd.hM
    simp only [List.getD_cons_zero, List.getD_cons_succ] at hM
    have hlj := hlen2 j
    by_cases hbj : j < 16
    · have hqj := hold j i q hq
      have hnz : (rowTo n q ls j).2 ≠ [] := by intro e; have k1 := hlj.2.1; have k2 := congrArg List.length e; simp only [List.length_nil] at k2; omega
      obtain ⟨rS, hdS, hgS, hrS⟩ := vec_get (hd.ms.v 2 (by simp)) (by simpa using hnz)
      simp only [List.getD_cons_zero, List.getD_cons_succ, List.length_map] at hdS hgS
      have hil : i < (rowTo n q ls j).2.length := (List.getElem?_eq_some_iff.1 hqj).1
      have hvs : vecSize Hj rS 1 = true := vecSize_of hgS (by simpa using hnz) (headIs _)
      have hqm : ((rowTo n q ls j).2.map isD)[i]? = some (isD q) := by simp [hqj]
      obtain ⟨-, lq, hlq⟩ := hI.good q (List.mem_of_getElem? hq)
      have hqlen : q.length ≤ 3300 := by have := clos_len n lq; rw [← hlq] at this; omega
      have hst := stepc_ok n q j g2 (by omega)
      rw [stepN_eq g3] at hst
      have hcl := close_ok n (stp n j q) g2 (by have := stp_len n j q; omega)
      rw [closeN_eq g3] at hcl
      have hs1 := stripNIc n q j
      have hs2 := stripNI n (stp n j q)
      have hS := dstate_ok 3 2 n nx _ _ Hj (clos n (stp n j q)) hd g3 (fun s hs => clos_in hs) (fun q' hq' => small_good g3 (hgood j q' hq')) (by have := clos_len n (stp n j q); omega) (by omega)
      have hlead : leadN n j q = clos n (stp n j q) := rfl
      have hre1 : (rowTo n q ls (j + 1)).1 = (rowTo n q ls j).1 ++ [(addS (rowTo n q ls j).2 (clos n (stp n j q))).1] := rfl
      have hre2 : (rowTo n q ls (j + 1)).2 = (addS (rowTo n q ls j).2 (clos n (stp n j q))).2 := rfl
      rw [← hre2] at hS
      clear hlead hnz hlq hgood hold hlen2 hG hIs
      repeat' (first | refine wz1 ?_ | refine wz2 ?_ | refine wz3 ?_ | refine wz4 ?_ | refine wz5 ?_ | refine wz6 ?_ | simp -dsimp (maxSteps:=999999) (disch:=omega) only[go_sem,simprocAttr, *] | ((first | refine wz8 (fun hh => ?_) (fun hh => ?_) | refine wz9 (fun hh => ?_) (fun hh => ?_) | refine wz7 (fun hh => ?_) (fun hh => ?_)) <;> (try replace hh := vqs hh) <;> (try (exfalso; first | exact hh | omega))))
      refine wpB_regionXL (prs := []) (by kernel_rfl) rfl (by kernel_rfl) ?_
      simp -dsimp (maxSteps:=999999) (disch:=omega) only[go_sem,simprocAttr, *,isD]
      refine ⟨fun _ => congrArg Option.isSome hs1, evB_plain bo92 rfl rfl hs1 hst ?_⟩
      simp -dsimp (maxSteps:=999999) (disch:=omega) only[go_sem,simprocAttr, *]
      refine ⟨fun _ => rfl, evB_plain bo91 rfl rfl hs2 hcl ?_⟩
      simp -dsimp (maxSteps:=999999) (disch:=omega) only[go_sem,simprocAttr, *]
      refine ⟨fun h => Bool.noConfusion (show false = true from h), evB_state bo90 rfl rfl hS ?_ (fun _ _ h => h.elim)⟩
      rintro _ H3 ⟨rfl, ds3, hd3, hv3⟩
      have h83 := (hv3.keep r8 (lt_of_hget h8) hn8).trans h8
      have h03 := (hv3.keep 0 (lt_of_hget h0) hn0).trans h0
      have h13 := (hv3.keep 1 (lt_of_hget h1) hn1).trans h1
      have hn03 : ¬ own (dkL 3 2 ds3) 0 := fun ho => by
        rcases hv3.ow 0 ho with h | h
        · exact hn0 h
        · have := lt_of_hget h0; omega
      have hn13 : ¬ own (dkL 3 2 ds3) 1 := fun ho => by
        rcases hv3.ow 1 ho with h | h
        · exact hn1 h
        · have := lt_of_hget h1; omega
      have hn83 : ¬ own (dkL 3 2 ds3) r8 := fun ho => by
        rcases hv3.ow r8 ho with h | h
        · exact hn8 h
        · have := lt_of_hget h8; omega
      have hz8 := rowZ_len hlj.1 (by omega : j ≤ 16)
      have hz9 := rowZ_set hlj.1 hbj (addS (rowTo n q ls j).2 (clos n (stp n j q))).1
      rw [← hre1] at hz9
      clear hS hst hcl hs1 hs2 hv3 hd hM hgS hrS hvs hqm hre1 hre2
      generalize rowZ (rowTo n q ls j).1 j = z at *
      generalize hz2 : rowZ (rowTo n q ls (j + 1)).1 (j + 1) = z2 at *
      generalize (addS (rowTo n q ls j).2 (clos n (stp n j q))).1 = x at *
      have b1 := row_noTup z
      have b2 := row_cells z
      have b3 := row_aggQ z
      have hob : (D.agg (List.take (j * 1) (List.map (D.int .i64) z) ++ [D.int .i64 x] ++ List.drop (j * 1 + 1) (List.map (D.int .i64) z))) = rowD z2 := by
        rw [← hz9, Nat.mul_one]; simp [rowD, List.map_append, List.map_take, List.map_drop]
      have hl8 := lt_of_hget h83
      have q0 : hget (H3.set r8 (.arr [rowD z2])) 0 = _ := (hget_set_ne hr0).trans h03
      have q1 : hget (H3.set r8 (.arr [rowD z2])) 1 = _ := (hget_set_ne hr1).trans h13
      have q8 : hget (H3.set r8 (.arr [rowD z2])) r8 = .arr [rowD z2] := hget_set_eq hl8
      have qd : DkAt 3 2 n nx (rowTo n q ls (j + 1)).2 ds3 (H3.set r8 (.arr [rowD z2])) := hd3.keep (by simp) fun r hr => hget_set_ne fun e => hn83 (e ▸ hr)
      simp -dsimp (maxSteps:=999999) (disch:=omega) only[go_sem,simprocAttr, *]
      clear hob hz9 b1 b2 b3 hd3
      generalize H3.set r8 (.arr [rowD z2]) = H4 at *
      repeat' (first | refine wz1 ?_ | refine wz2 ?_ | refine wz3 ?_ | refine wz4 ?_ | refine wz5 ?_ | refine wz6 ?_ | simp -dsimp (maxSteps:=999999) (disch:=omega) only[go_sem,simprocAttr, *] | ((first | refine wz8 (fun hh => ?_) (fun hh => ?_) | refine wz9 (fun hh => ?_) (fun hh => ?_) | refine wz7 (fun hh => ?_) (fun hh => ?_)) <;> (try replace hh := vqs hh) <;> (try (exfalso; first | exact hh | omega))))
      refine hR2 _ _ ⟨j + 1, ds3, by omega, qd, q0, q1, by rw [hz2]; exact q8, hn03, hn13, hn83, gs, gs, gs, gs, gs, gs⟩ ?_
      simp -dsimp (maxSteps:=999999) (disch:=omega) only[go_sem,simprocAttr, *,natOf_int]
    · obtain rfl : j = 16 := by omega
      have hlen := fun HH => vec_len (e := 38) (hd.ms.v 2 (by simp)) HH
      simp only [List.getD_cons_zero, List.getD_cons_succ, List.length_map] at hlen
      by_cases hbig : 200 < (rowTo n q ls 16).2.length
      · rw [if_pos hbig] at hG
        subst hG
        have hl0 := lt_of_hget h0
        clear hlen2 hold hgood hI hIs hd hlj
        repeat' (first | refine wz1 ?_ | refine wz2 ?_ | refine wz3 ?_ | refine wz4 ?_ | refine wz5 ?_ | refine wz6 ?_ | simp -dsimp (maxSteps:=999999) (disch:=omega) only[go_sem,simprocAttr, *,bdD0] | ((first | refine wz8 (fun hh => ?_) (fun hh => ?_) | refine wz9 (fun hh => ?_) (fun hh => ?_) | refine wpB_cond (by simp -dsimp (maxSteps:=999999) (disch:=omega) only[go_sem,simprocAttr, *,bdD0]; exact rfl) (fun hh => ?_) (fun hh => ?_)) <;> (try replace hh := vqs hh) <;> (try (exfalso; first | exact hh | omega))))
        exact outPure_strip rfl
      · rw [if_neg hbig] at hG
        have hz8 : rowZ (rowTo n q ls 16).1 16 = (rowTo n q ls 16).1 := by simp [rowZ]
        rw [hz8] at h8
        have hr16 := hlj.1
        have hnl := hI.len
        clear hlen2 hold hgood hz8
        generalize hrow : (rowTo n q ls 16).1 = row at *
        generalize hls2 : (rowTo n q ls 16).2 = ls2 at *
        have b1 := row_noTup row
        have b2 := row_cells row
        have b3 := row_aggQ row
        obtain ⟨d4, H4, a4, m4, M4, l4, k4, f4, p1, p2, p3⟩ := hd.ms.app (p := 0) (by simp) (H1 := Hj ++ [.arr [rowD row]]) el75 sz113 by113 zrR7 rfl (by decide) (by simp) (fun r hr => hget_app_lt hr) (add_new (.inl (strip_row row))) (by rw [row_cells]; simp [hr16]) (headRows nx (fun r hr => by
          obtain ⟨j, hj, rfl⟩ := List.mem_iff_getElem.1 hr
          have := (hI.row j (by omega)).1
          rwa [List.getD_eq_getElem?_getD, List.getElem?_eq_getElem hj] at this)) (by simp; have := hI.le; omega)
        simp only [List.set_cons_zero, List.set_cons_succ, List.getD_cons_zero, List.getD_cons_succ] at m4 a4 k4
        simp only [List.length_append, List.length_cons, List.length_nil] at l4
        have hM4 := M4.trans hM
        have w4 := m4.m
        have hrl := hd.rl
        have ro : ∀ i, 2 ∉ objsD ([d4, dR, dS].getD i ud) := fun i hi => by
          match i, hi with
          | 0, hi => have := f4 2 (by simpa using hi); omega
          | 1, hi => exact hd.ro 1 hi
          | 2, hi => exact hd.ro 2 hi
          | i + 3, hi => simp [ud, objsD] at hi
        have no : ∀ r, r < Hj.length → ¬ own (dkL 3 2 [dN, dR, dS]) r → ¬ own (dkL 3 2 [d4, dR, dS]) r := fun r hr hn ⟨i, hi⟩ => by
          match i, hi with
          | 0, hi => exact hn ⟨0, hi⟩
          | 1, hi => exact hn ⟨1, hi⟩
          | 2, hi => have := f4 r (by simpa using hi); omega
          | 3, hi => exact hn ⟨3, hi⟩
          | 4, hi => exact hn ⟨4, hi⟩
          | i + 5, hi => simp [ud, objsD] at hi
        have hsame : ∀ r ob, r < Hj.length → ¬ own (dkL 3 2 [dN, dR, dS]) r → hget (H4.set 3 ob) r = hget Hj r := fun r ob hr hn => by
          rw [hget_set_ne (fun e => hn ⟨0, by simp [objsD, e]⟩), k4 r hr (fun h => hn ⟨2, h⟩)]
        have hD : DkAt 3 2 n (nx ++ [row]) ls2 [d4, dR, dS] (H4.set 3 (.arr [.agg [.sl false (n.free.map isD), .sl false (n.set.map (.int .u16)), .sl false (n.to.map (.int .i64)), .sl false (n.rule.map (.int .i64)), d4, dR, .map 2, dS]])) := by
          refine ⟨by simpa using m4.setM _, by rw [hget_set_eq w4]; rfl, ?_, hd.rM, ro, by simp; omega⟩
          rw [hget_set_ne (by omega), k4 2 hrl (hd.ro 0), hd.hm]
        have q0 := (hsame 0 (.arr [.agg [.sl false (n.free.map isD), .sl false (n.set.map (.int .u16)), .sl false (n.to.map (.int .i64)), .sl false (n.rule.map (.int .i64)), d4, dR, .map 2, dS]]) (lt_of_hget h0) hn0).trans h0
        have q1 := (hsame 1 (.arr [.agg [.sl false (n.free.map isD), .sl false (n.set.map (.int .u16)), .sl false (n.to.map (.int .i64)), .sl false (n.rule.map (.int .i64)), d4, dR, .map 2, dS]]) (lt_of_hget h1) hn1).trans h1
        have n0 := no 0 (lt_of_hget h0) hn0
        have n1 := no 1 (lt_of_hget h1) hn1
        have hr8l := lt_of_hget h8
        have hsr : stripL [rowD row] = some [rowD row] := strip1 (strip_row row)
        have hne3 : Hj.length ≠ 3 := by have := hd.ms.m; omega
        clear hsame no ro k4 f4 m4 hd l4 hI hlj M4
        repeat' (first | refine wz1 ?_ | refine wz2 ?_ | refine wz3 ?_ | refine wz4 ?_ | refine wz5 ?_ | refine wz6 ?_ | simp -dsimp (maxSteps:=999999) (disch:=omega) only[go_sem,simprocAttr, *] | ((first | refine wz8 (fun hh => ?_) (fun hh => ?_) | refine wz9 (fun hh => ?_) (fun hh => ?_) | refine wz7 (fun hh => ?_) (fun hh => ?_)) <;> (try replace hh := vqs hh) <;> (try (exfalso; first | exact hh | omega))))
        refine wpB_regionXL (prs := [([71], [68])]) (by kernel_rfl) rfl (by kernel_rfl) ?_; simp -dsimp (maxSteps:=999999) (disch:=omega) only[go_sem,simprocAttr, *]
        refine ⟨rfl, ?_⟩
        generalize H4.set 3 (.arr [.agg [.sl false (n.free.map isD), .sl false (n.set.map (.int .u16)), .sl false (n.to.map (.int .i64)), .sl false (n.rule.map (.int .i64)), d4, dR, .map 2, dS]]) = J at *
        repeat' (first | refine wz1 ?_ | refine wz2 ?_ | refine wz3 ?_ | refine wz4 ?_ | refine wz5 ?_ | refine wz6 ?_ | simp -dsimp (maxSteps:=999999) (disch:=omega) only[go_sem,simprocAttr, *] | ((first | refine wz8 (fun hh => ?_) (fun hh => ?_) | refine wz9 (fun hh => ?_) (fun hh => ?_) | refine wz7 (fun hh => ?_) (fun hh => ?_)) <;> (try replace hh := vqs hh) <;> (try (exfalso; first | exact hh | omega))))
        refine hR _ _ ⟨k, i + 1, ls2, nx ++ [row], _, by omega, hIs, by omega, hD, q0, q1, n0, n1, hG, gs, gs, gs, gs⟩ ?_
        simp -dsimp (maxSteps:=999999) (disch:=omega) only[go_sem,simprocAttr, *,natOf_int]
end Go.Proofs.W
end
/- Machines without free steps, computed: sets of states as numbers, a bit a state. -/
section
set_option maxHeartbeats 4000000
set_option linter.unusedVariables false
set_option linter.unusedSimpArgs false
namespace Go.Proofs.W
open Go Vm Go.Proofs.Zs25

def force {α : Type} (m : Nat) (f : Nat → α) : α := match m with
  | 0 => f 0
  | n + 1 => f (n + 1)
theorem force_eq {α : Type} (m : Nat) (f : Nat → α) : force m f = f m := by cases m <;> rfl
def forceL {α : Type} : List Nat → (List Nat → α) → α
  | [], f => f []
  | x :: r, f => force x fun y => forceL r fun t => f (y :: t)
theorem forceL_eq {α : Type} : ∀ (l : List Nat) (f : List Nat → α), forceL l f = f l
  | [], _ => rfl
  | x :: r, f => by rw [forceL, force_eq, forceL_eq r]
/-- a number's states -/
def ofM (k m : Nat) : List Int := listZ k fun s => m.testBit s
/-- all bits are below -/
def below (k m : Nat) : Prop := ∀ t, m.testBit t = true → t < k
theorem ofM_mem {k m : Nat} (h : below k m) {t : Nat} : (t : Int) ∈ ofM k m ↔ m.testBit t = true := by
  unfold ofM
  rw [mem_listZ]
  constructor
  · rintro ⟨i, _, h2, h3⟩
    have : t = i := by omega
    rw [this]; exact h2
  · intro ht; exact ⟨t, h t ht, ht, rfl⟩
theorem ofM_inj {k a b : Nat} (ha : below k a) (hb : below k b) (h : ofM k a = ofM k b) : a = b := by
  apply Nat.eq_of_testBit_eq
  intro t
  rw [Bool.eq_iff_iff, ← ofM_mem ha, ← ofM_mem hb, h]
theorem ofM_zero (k : Nat) : ofM k 0 = [] := by
  unfold ofM listZ
  rw [List.filter_eq_nil_iff.2 (fun t _ => by simp)]
  rfl
theorem ofM_nil {k m : Nat} (h : below k m) : ofM k m = [] ↔ m = 0 :=
  ⟨fun e => ofM_inj h (fun t ht => by simp at ht) (by rw [e, ofM_zero]), fun e => by rw [e, ofM_zero]⟩
/-- one round: who leads to what by one more free step -/
def stepT (n : Nfa) (T : List Nat) : List Nat := (List.range n.set.length).map fun s => (n.free.getD s []).foldl (fun m t => m ||| T.getD t.toNat 0) (T.getD s 0)
def iterT (n : Nfa) : Nat → List Nat → List Nat
  | 0, T => T
  | i + 1, T => forceL (stepT n T) (iterT n i)
def initT (k : Nat) : List Nat := (List.range k).map fun s => 1 <<< s
def Snd (n : Nfa) (T : List Nat) : Prop := ∀ s, s < n.set.length → ∀ t, (T.getD s 0).testBit t = true → t < n.set.length ∧ Reach n (· = s) t
def okT (n : Nfa) (R : List Nat) : Bool := (List.range n.set.length).all fun s => (R.getD s 0).testBit s && (n.free.getD s []).all fun t => (R.getD t.toNat 0 ||| R.getD s 0) == R.getD s 0
theorem init_snd (n : Nfa) : Snd n (initT n.set.length) := fun s hs t ht => by
  have e : (initT n.set.length).getD s 0 = 1 <<< s := by simp [initT, List.getD_eq_getElem?_getD, hs]
  rw [e, Nat.one_shiftLeft, Nat.testBit_two_pow] at ht
  have : s = t := by simpa using ht
  subst this
  exact ⟨hs, .base rfl⟩
theorem fold_bit (f : Int → Nat) : ∀ (l : List Int) (m t : Nat), (l.foldl (fun m x => m ||| f x) m).testBit t = true ↔ m.testBit t = true ∨ ∃ x ∈ l, (f x).testBit t = true
  | [], m, t => by simp
  | y :: r, m, t => by
    rw [List.foldl_cons, fold_bit f r, Nat.testBit_or, Bool.or_eq_true]
    simp only [List.mem_cons, exists_eq_or_imp]
    exact or_assoc
theorem step_snd {n : Nfa} (hn : rightN n = true) {T : List Nat} (h : Snd n T) : Snd n (stepT n T) := fun s hs t ht => by
  have e : (stepT n T).getD s 0 = (n.free.getD s []).foldl (fun m t => m ||| T.getD t.toNat 0) (T.getD s 0) := by simp [stepT, List.getD_eq_getElem?_getD, hs]
  rw [e, fold_bit (fun t => T.getD t.toNat 0)] at ht
  rcases ht with ht | ⟨x, hx, ht⟩
  · exact h s hs t ht
  · obtain ⟨h0, h1⟩ := right_free hn hs hx
    obtain ⟨g1, g2⟩ := h x.toNat (by omega) t ht
    refine ⟨g1, g2.sub fun y hy => ?_⟩
    subst hy
    exact .step (.base rfl) (by rwa [Int.toNat_of_nonneg h0])
theorem iter_snd {n : Nfa} (hn : rightN n = true) : ∀ (i : Nat) (T : List Nat), Snd n T → Snd n (iterT n i T)
  | 0, _, h => h
  | i + 1, T, h => by rw [iterT, forceL_eq]; exact iter_snd hn i _ (step_snd hn h)
theorem tab_reach {n : Nfa} (hn : rightN n = true) {R : List Nat} (hS : Snd n R) (hO : okT n R = true) {s : Nat} (hs : s < n.set.length) {t : Nat} : (R.getD s 0).testBit t = true ↔ Reach n (· = s) t := by
  have hO' : ∀ s, s < n.set.length → (R.getD s 0).testBit s = true ∧ ∀ x ∈ n.free.getD s [], ∀ t, (R.getD x.toNat 0).testBit t = true → (R.getD s 0).testBit t = true := fun s hs => by
    have := List.all_eq_true.1 hO s (List.mem_range.2 hs)
    simp only [Bool.and_eq_true, List.all_eq_true, beq_iff_eq] at this
    refine ⟨this.1, fun x hx t ht => ?_⟩
    rw [← this.2 x hx, Nat.testBit_or, ht]; rfl
  refine ⟨fun h => (hS s hs t h).2, fun h => ?_⟩
  have key : t < n.set.length ∧ ∀ u, (R.getD t 0).testBit u = true → (R.getD s 0).testBit u = true := by
    induction h with
    | base h => subst h; exact ⟨hs, fun u hu => hu⟩
    | @step a b _ hb ih =>
      obtain ⟨ha, ih⟩ := ih
      obtain ⟨h0, h1⟩ := right_free hn ha hb
      exact ⟨by omega, fun u hu => ih u ((hO' a ha).2 b hb u (by simpa using hu))⟩
  exact key.2 t (hO' t key.1).1
/-- all states behind one category and free steps -/
def stepM (n : Nfa) (R : List Nat) (c : Int) (q : Nat) : List Nat → Nat
  | [] => 0
  | s :: r => if q.testBit s && hit n c s then R.getD (n.to.getD s 0).toNat 0 ||| stepM n R c q r else stepM n R c q r
theorem stepM_bit {n : Nfa} {R : List Nat} {c : Int} {q t : Nat} : ∀ {l : List Nat}, (stepM n R c q l).testBit t = true ↔ ∃ s ∈ l, q.testBit s = true ∧ hit n c s = true ∧ (R.getD (n.to.getD s 0).toNat 0).testBit t = true
  | [] => by simp [stepM]
  | s :: r => by
    rw [stepM]
    split
    · rename_i h
      rw [Bool.and_eq_true] at h
      rw [Nat.testBit_or, Bool.or_eq_true, stepM_bit]
      simp only [List.mem_cons, exists_eq_or_imp, h.1, h.2, true_and]
    · rename_i h
      rw [Bool.and_eq_true] at h
      rw [stepM_bit]
      simp only [List.mem_cons, exists_eq_or_imp]
      constructor
      · exact .inr
      · rintro (⟨h1, h2, _⟩ | h1)
        · exact absurd ⟨h1, h2⟩ h
        · exact h1
theorem Reach.from {n : Nfa} {p : Nat → Prop} {t : Nat} (h : Reach n p t) : ∃ b, p b ∧ Reach n (· = b) t := by
  induction h with
  | base h => exact ⟨_, h, .base rfl⟩
  | step _ h ih =>
    obtain ⟨b, h1, h2⟩ := ih
    exact ⟨b, h1, .step h2 h⟩
theorem step_below {n : Nfa} {R : List Nat} {c : Int} {q : Nat} (hn : rightN n = true) (hS : Snd n R) (hlen : R.length ≤ n.set.length) {l : List Nat} : below n.set.length (stepM n R c q l) := fun t ht => by
  obtain ⟨s, _, _, _, h⟩ := stepM_bit.1 ht
  by_cases hs : (n.to.getD s 0).toNat < n.set.length
  · exact (hS _ hs t h).1
  · rw [List.getD_eq_getElem?_getD, List.getElem?_eq_none (by omega)] at h
    simp at h
theorem lead_eq {n : Nfa} {R : List Nat} (hn : rightN n = true) (hS : Snd n R) (hO : okT n R = true) (c : Int) {q : Nat} (hq : below n.set.length q) : leadN n c (ofM n.set.length q) = ofM n.set.length (stepM n R c q (List.range n.set.length)) := by
  refine strict_unique (listZ_strict _ _) (listZ_strict _ _) fun x => ?_
  unfold leadN clos
  rw [mem_listZ]
  unfold ofM
  rw [mem_listZ]
  have hto : ∀ s, s < n.set.length → hit n c s = true → 0 ≤ n.to.getD s 0 ∧ n.to.getD s 0 < n.set.length := fun s hs hh => by
    have := (right_row hn).2.2.2.2.2 s hs
    simp only [rowOk, Bool.and_eq_true, Bool.not_eq_true', Bool.and_eq_false_iff, decide_eq_false_iff_not, Bool.not_eq_false'] at this
    rcases this.1.1.1 with h0 | h0
    · have h0' : n.set.getD s 0 = 0 := by simpa using h0
      rw [hit, inB, h0', bitZ_zero] at hh
      simp at hh
    · exact isS_iff.1 h0
  constructor
  · rintro ⟨i, h1, h2, h3⟩
    obtain ⟨b, ⟨hb1, hb2⟩, hb3⟩ := Reach.from (clo_iff.1 h2)
    unfold stp at hb2
    obtain ⟨b', g1, g2, g3⟩ := mem_listZ.1 hb2
    obtain rfl : b = b' := by omega
    unfold stepTo at g2
    obtain ⟨s, g4, g5⟩ := List.any_eq_true.1 g2
    simp only [Bool.and_eq_true, decide_eq_true_eq] at g5
    have hs := List.mem_range.1 g4
    refine ⟨i, h1, stepM_bit.2 ⟨s, g4, (ofM_mem hq).1 g5.1.1, g5.1.2, ?_⟩, h3⟩
    rw [g5.2, Int.toNat_natCast]
    exact (tab_reach hn hS hO hb1).2 hb3
  · rintro ⟨i, h1, h2, h3⟩
    obtain ⟨s, g4, g5, g6, g7⟩ := stepM_bit.1 h2
    have hs := List.mem_range.1 g4
    obtain ⟨t0, t1⟩ := hto s hs g6
    have hr := (tab_reach hn hS hO (by omega)).1 g7
    refine ⟨i, h1, clo_iff.2 (hr.sub fun y hy => ?_), h3⟩
    subst hy
    refine .base ⟨by omega, ?_⟩
    unfold stp
    refine mem_listZ.2 ⟨(n.to.getD s 0).toNat, by omega, ?_, rfl⟩
    unfold stepTo
    refine List.any_eq_true.2 ⟨s, g4, ?_⟩
    simp only [Bool.and_eq_true, decide_eq_true_eq]
    exact ⟨⟨(ofM_mem hq).2 g5, g6⟩, by rw [Int.toNat_of_nonneg t0]⟩
theorem start_eq {n : Nfa} {R : List Nat} (hn : rightN n = true) (hS : Snd n R) (hO : okT n R = true) : clos n [0] = ofM n.set.length (R.getD 0 0) := by
  have hk := (right_row hn).1
  refine strict_unique (listZ_strict _ _) (listZ_strict _ _) fun x => ?_
  unfold clos
  rw [mem_listZ]
  unfold ofM
  rw [mem_listZ]
  constructor
  · rintro ⟨i, h1, h2, h3⟩
    refine ⟨i, h1, (tab_reach hn hS hO (by omega)).2 ((clo_iff.1 h2).sub fun y hy => .base ?_), h3⟩
    have := hy.2
    simp at this
    omega
  · rintro ⟨i, h1, h2, h3⟩
    refine ⟨i, h1, clo_iff.2 (((tab_reach hn hS hO (by omega)).1 h2).sub fun y hy => .base ⟨by omega, by simp [hy]⟩), h3⟩
def placeM (m : Nat) : Nat → List Nat → Option Nat
  | _, [] => none
  | i, q :: ls => if m = q then some i else placeM m (i + 1) ls
def addM (ls : List Nat) (m : Nat) : Int × List Nat := if m = 0 then (-1, ls) else match placeM m 0 ls with
  | some j => (j, ls)
  | none => (ls.length, ls ++ [m])
theorem place_eq {k m : Nat} (hm : below k m) : ∀ (ls : List Nat) (i : Nat), (∀ q ∈ ls, below k q) → placeS (ofM k m) i (ls.map (ofM k)) = placeM m i ls
  | [], _, _ => rfl
  | q :: ls, i, h => by
    rw [List.map_cons, placeS, placeM, place_eq hm ls (i + 1) fun x hx => h x (List.mem_cons_of_mem _ hx)]
    by_cases e : m = q
    · rw [if_pos e, if_pos (by rw [e])]
    · rw [if_neg e, if_neg fun h' => e (ofM_inj hm (h q List.mem_cons_self) h')]
theorem add_eqM {k m : Nat} (hm : below k m) {ls : List Nat} (h : ∀ q ∈ ls, below k q) : addS (ls.map (ofM k)) (ofM k m) = ((addM ls m).1, (addM ls m).2.map (ofM k)) ∧ ∀ q ∈ (addM ls m).2, below k q := by
  unfold addS addM
  by_cases e : m = 0
  · rw [if_pos e, if_pos ((ofM_nil hm).2 e)]
    exact ⟨rfl, h⟩
  · rw [if_neg e, if_neg fun h' => e ((ofM_nil hm).1 h'), place_eq hm ls 0 h]
    cases placeM m 0 ls with
    | some j => exact ⟨rfl, h⟩
    | none =>
      refine ⟨by simp, fun q hq => ?_⟩
      rcases List.mem_append.1 hq with hq | hq
      · exact h q hq
      · rw [List.mem_singleton.1 hq]; exact hm
/-- a row, from a category on -/
def rowM (n : Nfa) (R : List Nat) (q : Nat) : Nat → Nat → List Int → List Nat → List Int × List Nat
  | 0, _, r, ls => (r, ls)
  | f + 1, c, r, ls => force (stepM n R c q (List.range n.set.length)) fun m => match addM ls m with
    | (j, ls') => rowM n R q f (c + 1) (r ++ [j]) ls'
theorem row_eqM {n : Nfa} {R : List Nat} (hn : rightN n = true) (hS : Snd n R) (hO : okT n R = true) (hlen : R.length ≤ n.set.length) {q : Nat} (hq : below n.set.length q) (ls0 : List (List Int)) : ∀ (f c : Nat) (r : List Int) (ls : List Nat), (∀ x ∈ ls, below n.set.length x) → rowTo n (ofM n.set.length q) ls0 c = (r, ls.map (ofM n.set.length)) →
    rowTo n (ofM n.set.length q) ls0 (c + f) = ((rowM n R q f c r ls).1, (rowM n R q f c r ls).2.map (ofM n.set.length)) ∧ ∀ x ∈ (rowM n R q f c r ls).2, below n.set.length x
  | 0, c, r, ls, hb, h => ⟨h, hb⟩
  | f + 1, c, r, ls, hb, h => by
    rw [rowM, force_eq]
    have hl := lead_eq hn hS hO c hq
    have hbm : below n.set.length (stepM n R c q (List.range n.set.length)) := step_below hn hS hlen
    generalize stepM n R c q (List.range n.set.length) = m at *
    obtain ⟨g1, g2⟩ := add_eqM hbm hb
    have hre : rowTo n (ofM n.set.length q) ls0 (c + 1) = (r ++ [(addM ls m).1], (addM ls m).2.map (ofM n.set.length)) := by
      rw [rowTo, h]
      simp only
      rw [hl, g1]
    have ih := row_eqM hn hS hO hlen hq ls0 f (c + 1) _ _ g2 hre
    rw [show c + (f + 1) = c + 1 + f by omega]
    exact ih
def runM (n : Nfa) (R : List Nat) : Nat → Nat → List Nat → List (List Int) → Option (List Nat × List (List Int))
  | 0, _, _, _ => none
  | k + 1, i, ls, nx => match ls[i]? with
    | none => some (ls, nx)
    | some q => match rowM n R q 16 0 [] ls with
      | (r, ls') => if 200 < ls'.length then none else runM n R k (i + 1) ls' (nx ++ [r])
theorem run_eqM {n : Nfa} {R : List Nat} (hn : rightN n = true) (hS : Snd n R) (hO : okT n R = true) (hlen : R.length ≤ n.set.length) : ∀ (k i : Nat) (ls : List Nat) (nx : List (List Int)), (∀ x ∈ ls, below n.set.length x) → runB n k i (ls.map (ofM n.set.length)) nx = (runM n R k i ls nx).map fun p => (p.1.map (ofM n.set.length), p.2)
  | 0, _, _, _, _ => rfl
  | k + 1, i, ls, nx, hb => by
    rw [runB, runM]
    by_cases hi : i < ls.length
    · have hq : ls[i]? = some ls[i] := List.getElem?_eq_getElem hi
      have hqd : (ls.map (ofM n.set.length)).getD i [] = ofM n.set.length ls[i] := by simp [List.getD_eq_getElem?_getD, hi]
      rw [if_pos (by simpa using hi), hq, hqd]
      simp only
      obtain ⟨h1, h2⟩ := row_eqM hn hS hO hlen (hb _ (List.getElem_mem hi)) (ls.map (ofM n.set.length)) 16 0 [] ls hb rfl
      rw [Nat.zero_add] at h1
      rw [h1]
      simp only [List.length_map]
      split
      · rfl
      · exact run_eqM hn hS hO hlen k (i + 1) _ _ h2
    · rw [if_neg (by simpa using hi), List.getElem?_eq_none (by omega)]
      rfl
/-- the machine, computed -/
def compM (n : Nfa) (N : Nat) : Option (List (List Int) × List Int) :=
  if rightN n = true then forceL (iterT n N (initT n.set.length)) fun R => if okT n R = true then
    (runM n R 202 0 [R.getD 0 0] []).map fun p => (p.2, p.1.map fun m => endsZ n (ofM n.set.length m)) else none else none
theorem iter_len (n : Nfa) : ∀ (i : Nat) (T : List Nat), T.length = n.set.length → (iterT n i T).length = n.set.length
  | 0, _, h => h
  | i + 1, T, _ => by rw [iterT, forceL_eq]; exact iter_len n i _ (by simp [stepT])
theorem dbuild_comp {l : List Rx} {n : Nfa} {N : Nat} {nx : List (List Int)} {rl : List Int} (hb : buildN l = some n) (h : compM n N = some (nx, rl)) : dbuild l = (⟨nx, rl⟩, 0) := by
  unfold compM at h
  rw [forceL_eq] at h
  split at h
  · rename_i hn
    split at h
    · rename_i hO
      have hS := iter_snd hn N _ (init_snd n)
      have hlen := iter_len n N (initT n.set.length) (by simp [initT])
      generalize iterT n N (initT n.set.length) = R at *
      have hk := (right_row hn).1
      have hb0 : below n.set.length (R.getD 0 0) := fun t ht => (hS 0 (by omega) t ht).1
      have hr := run_eqM hn hS hO (by omega) 202 0 [R.getD 0 0] [] (fun x hx => by rw [List.mem_singleton.1 hx]; exact hb0)
      rw [List.map_cons, List.map_nil, ← start_eq hn hS hO] at hr
      cases hq : runM n R 202 0 [R.getD 0 0] [] with
      | none => rw [hq] at h; cases h
      | some p =>
        rw [hq] at h hr
        obtain ⟨ls, nx'⟩ := p
        simp only [Option.map_some, Option.some.injEq, Prod.mk.injEq] at h hr
        obtain ⟨rfl, rfl⟩ := h
        unfold dbuild
        rw [hb]
        simp only
        rw [hr]
        simp [mkDfa]
    · cases h
  · cases h
end Go.Proofs.W
end
/- The four grammars: their expressions, machines with free steps, machines without. -/
section
set_option maxHeartbeats 4000000
set_option linter.unusedVariables false
set_option linter.unusedSimpArgs false
namespace Go.Proofs.W
open Go Vm Go.Proofs.Zs25

def gr1 : List Rx := [.mk 2 0 [.mk 1 17542 [], .mk 5 0 [.mk 1 8 []], .mk 4 0 [.mk 2 0 [.mk 1 16 [], .mk 5 0 [.mk 1 768 []], .mk 1 130 [], .mk 5 0 [.mk 1 8 []]]], .mk 4 0 [.mk 1 784 []], .mk 4 0 [.mk 1 8192 []], .mk 4 0 [.mk 1 32800 []], .mk 4 0 [.mk 1 64 []]], .mk 2 0 [.mk 1 41848 [], .mk 4 0 [.mk 1 41848 []]]]
def nf1 : Nfa := ⟨[[1, 41], [2], [], [4], [5, 7], [], [7], [8], [9, 23], [10], [], [12], [13, 15], [], [15], [16], [], [18], [19, 21], [], [21], [22], [9, 23], [24], [25, 27], [], [25, 27], [28], [29, 31], [], [29, 31], [32], [33, 35], [], [33, 35], [36], [37, 39], [], [37, 39], [40], [], [42], [], [44], [45, 47], [], [45, 47], [48], []], [0, 0, 17542, 0, 0, 8, 0, 0, 0, 0, 16, 0, 0, 768, 0, 0, 130, 0, 0, 8, 0, 0, 0, 0, 0, 784, 0, 0, 0, 8192, 0, 0, 0, 32800, 0, 0, 0, 64, 0, 0, 0, 0, 41848, 0, 0, 41848, 0, 0, 0], [0, 0, 3, 0, 0, 6, 0, 0, 0, 0, 11, 0, 0, 14, 0, 0, 17, 0, 0, 20, 0, 0, 0, 0, 0, 26, 0, 0, 0, 30, 0, 0, 0, 34, 0, 0, 0, 38, 0, 0, 0, 0, 43, 0, 0, 46, 0, 0, 0], [-1, -1, -1, -1, -1, -1, -1, -1, -1, -1, -1, -1, -1, -1, -1, -1, -1, -1, -1, -1, -1, -1, -1, -1, -1, -1, -1, -1, -1, -1, -1, -1, -1, -1, -1, -1, -1, -1, -1, -1, 0, -1, -1, -1, -1, -1, -1, -1, 1]⟩
def nx1 : List (List Int) := [[-1, 1, 1, 2, 2, 2, 2, 1, 2, 2, 1, -1, -1, 2, 1, 2], [-1, -1, -1, 3, 4, 5, 6, -1, 7, 7, -1, -1, -1, 8, -1, 5], [-1, -1, -1, 9, 9, 9, 9, -1, 9, 9, -1, -1, -1, 9, -1, 9], [-1, -1, -1, -1, 4, 5, 6, -1, 7, 7, -1, -1, -1, 8, -1, 5], [-1, 10, -1, -1, 7, 5, 6, 10, 11, 11, -1, -1, -1, 8, -1, 5], [-1, -1, -1, -1, -1, 5, 6, -1, -1, -1, -1, -1, -1, -1, -1, 5], [-1, -1, -1, -1, -1, -1, 6, -1, -1, -1, -1, -1, -1, -1, -1, -1], [-1, -1, -1, -1, 7, 5, 6, -1, 7, 7, -1, -1, -1, 8, -1, 5], [-1, -1, -1, -1, -1, 5, 6, -1, -1, -1, -1, -1, -1, 8, -1, 5], [-1, -1, -1, 9, 9, 9, 9, -1, 9, 9, -1, -1, -1, 9, -1, 9], [-1, -1, -1, 12, 4, 5, 6, -1, 7, 7, -1, -1, -1, 8, -1, 5], [-1, 10, -1, -1, 7, 5, 6, 10, 7, 7, -1, -1, -1, 8, -1, 5], [-1, -1, -1, -1, 4, 5, 6, -1, 7, 7, -1, -1, -1, 8, -1, 5]]
def rl1 : List Int := [-1, 0, 1, 0, 0, 0, 0, 0, 0, 1, 0, 0, 0]
theorem bld1 : buildN gr1 = some nf1 := by kernel_rfl
theorem cmp1 : compM nf1 60 = some (nx1, rl1) := by kernel_rfl
theorem okg1 : ∀ r ∈ gr1, okR r := fun r hr => okL_get (l := gr1) (by simp [gr1, okL, okR]) r hr
theorem told1 : PureF Tryz.prog A 70 [rxsD gr1] (.tup [dfaD ⟨nx1, rl1⟩, .int .i64 0]) := by
  have h := dbuild_ok gr1 (fun _ => okg1) (by decide)
  rw [dbuild_comp bld1 cmp1] at h
  exact h
def gr2 : List Rx := [.mk 2 0 [.mk 4 0 [.mk 2 0 [.mk 1 130 [], .mk 5 0 [.mk 1 8 []], .mk 1 16 [], .mk 5 0 [.mk 1 768 []]]], .mk 1 130 [], .mk 5 0 [.mk 1 8 []], .mk 4 0 [.mk 1 784 []], .mk 4 0 [.mk 1 8192 []], .mk 4 0 [.mk 1 32800 []], .mk 5 0 [.mk 1 8 []], .mk 4 0 [.mk 1 64 []]], .mk 2 0 [.mk 5 0 [.mk 2 0 [.mk 1 128 [], .mk 1 16 []]], .mk 1 4 [], .mk 5 0 [.mk 1 8 []], .mk 4 0 [.mk 2 0 [.mk 1 16 [], .mk 1 130 [], .mk 5 0 [.mk 1 8 []]]], .mk 4 0 [.mk 1 32800 []], .mk 4 0 [.mk 1 64 []]], .mk 2 0 [.mk 1 17408 [], .mk 5 0 [.mk 1 8 []], .mk 4 0 [.mk 2 0 [.mk 1 16 [], .mk 1 130 [], .mk 5 0 [.mk 1 8 []]]], .mk 4 0 [.mk 1 32800 []], .mk 4 0 [.mk 1 64 []]], .mk 2 0 [.mk 1 41848 [], .mk 4 0 [.mk 1 41848 []]]]
def nf2 : Nfa := ⟨[[1, 45, 81, 109], [2], [3, 17], [4], [], [6], [7, 9], [], [9], [10], [], [12], [13, 15], [], [15], [16], [3, 17], [18], [], [20], [21, 23], [], [23], [24], [25, 27], [], [25, 27], [28], [29, 31], [], [29, 31], [32], [33, 35], [], [33, 35], [36], [37, 39], [], [39], [40], [41, 43], [], [41, 43], [44], [], [46], [47, 53], [48], [], [50], [], [52], [53], [54], [], [56], [57, 59], [], [59], [60], [61, 71], [62], [], [64], [], [66], [67, 69], [], [69], [70], [61, 71], [72], [73, 75], [], [73, 75], [76], [77, 79], [], [77, 79], [80], [], [82], [], [84], [85, 87], [], [87], [88], [89, 99], [90], [], [92], [], [94], [95, 97], [], [97], [98], [89, 99], [100], [101, 103], [], [101, 103], [104], [105, 107], [], [105, 107], [108], [], [110], [], [112], [113, 115], [], [113, 115], [116], []], [0, 0, 0, 0, 130, 0, 0, 8, 0, 0, 16, 0, 0, 768, 0, 0, 0, 0, 130, 0, 0, 8, 0, 0, 0, 784, 0, 0, 0, 8192, 0, 0, 0, 32800, 0, 0, 0, 8, 0, 0, 0, 64, 0, 0, 0, 0, 0, 0, 128, 0, 16, 0, 0, 0, 4, 0, 0, 8, 0, 0, 0, 0, 16, 0, 130, 0, 0, 8, 0, 0, 0, 0, 0, 32800, 0, 0, 0, 64, 0, 0, 0, 0, 17408, 0, 0, 8, 0, 0, 0, 0, 16, 0, 130, 0, 0, 8, 0, 0, 0, 0, 0, 32800, 0, 0, 0, 64, 0, 0, 0, 0, 41848, 0, 0, 41848, 0, 0, 0], [0, 0, 0, 0, 5, 0, 0, 8, 0, 0, 11, 0, 0, 14, 0, 0, 0, 0, 19, 0, 0, 22, 0, 0, 0, 26, 0, 0, 0, 30, 0, 0, 0, 34, 0, 0, 0, 38, 0, 0, 0, 42, 0, 0, 0, 0, 0, 0, 49, 0, 51, 0, 0, 0, 55, 0, 0, 58, 0, 0, 0, 0, 63, 0, 65, 0, 0, 68, 0, 0, 0, 0, 0, 74, 0, 0, 0, 78, 0, 0, 0, 0, 83, 0, 0, 86, 0, 0, 0, 0, 91, 0, 93, 0, 0, 96, 0, 0, 0, 0, 0, 102, 0, 0, 0, 106, 0, 0, 0, 0, 111, 0, 0, 114, 0, 0, 0], [-1, -1, -1, -1, -1, -1, -1, -1, -1, -1, -1, -1, -1, -1, -1, -1, -1, -1, -1, -1, -1, -1, -1, -1, -1, -1, -1, -1, -1, -1, -1, -1, -1, -1, -1, -1, -1, -1, -1, -1, -1, -1, -1, -1, 0, -1, -1, -1, -1, -1, -1, -1, -1, -1, -1, -1, -1, -1, -1, -1, -1, -1, -1, -1, -1, -1, -1, -1, -1, -1, -1, -1, -1, -1, -1, -1, -1, -1, -1, -1, 1, -1, -1, -1, -1, -1, -1, -1, -1, -1, -1, -1, -1, -1, -1, -1, -1, -1, -1, -1, -1, -1, -1, -1, -1, -1, -1, -1, 2, -1, -1, -1, -1, -1, -1, -1, 3]⟩
def nx2 : List (List Int) := [[-1, 1, 2, 3, 3, 3, 3, 4, 3, 3, 5, -1, -1, 3, 5, 3], [-1, -1, -1, 6, 7, 8, 9, -1, 10, 10, -1, -1, -1, 11, -1, 8], [-1, -1, -1, 12, 13, 14, 15, -1, -1, -1, -1, -1, -1, -1, -1, 14], [-1, -1, -1, 16, 16, 16, 16, -1, 16, 16, -1, -1, -1, 16, -1, 16], [-1, -1, -1, 6, 17, 8, 9, -1, 10, 10, -1, -1, -1, 11, -1, 8], [-1, -1, -1, 18, 19, 20, 21, -1, -1, -1, -1, -1, -1, -1, -1, 20], [-1, -1, -1, 22, 7, 8, 9, -1, 10, 10, -1, -1, -1, 11, -1, 8], [-1, 1, -1, 22, 10, 8, 9, 1, 23, 23, -1, -1, -1, 11, -1, 8], [-1, -1, -1, 22, -1, 8, 9, -1, -1, -1, -1, -1, -1, -1, -1, 8], [-1, -1, -1, -1, -1, -1, 9, -1, -1, -1, -1, -1, -1, -1, -1, -1], [-1, -1, -1, 22, 10, 8, 9, -1, 10, 10, -1, -1, -1, 11, -1, 8], [-1, -1, -1, 22, -1, 8, 9, -1, -1, -1, -1, -1, -1, 11, -1, 8], [-1, -1, -1, -1, 13, 14, 15, -1, -1, -1, -1, -1, -1, -1, -1, 14], [-1, 24, -1, -1, -1, -1, -1, 24, -1, -1, -1, -1, -1, -1, -1, -1], [-1, -1, -1, -1, -1, 14, 15, -1, -1, -1, -1, -1, -1, -1, -1, 14], [-1, -1, -1, -1, -1, -1, 15, -1, -1, -1, -1, -1, -1, -1, -1, -1], [-1, -1, -1, 16, 16, 16, 16, -1, 16, 16, -1, -1, -1, 16, -1, 16], [-1, 1, 2, 22, 10, 8, 9, 1, 23, 23, -1, -1, -1, 11, -1, 8], [-1, -1, -1, -1, 19, 20, 21, -1, -1, -1, -1, -1, -1, -1, -1, 20], [-1, 25, -1, -1, -1, -1, -1, 25, -1, -1, -1, -1, -1, -1, -1, -1], [-1, -1, -1, -1, -1, 20, 21, -1, -1, -1, -1, -1, -1, -1, -1, 20], [-1, -1, -1, -1, -1, -1, 21, -1, -1, -1, -1, -1, -1, -1, -1, -1], [-1, -1, -1, -1, -1, -1, 9, -1, -1, -1, -1, -1, -1, -1, -1, -1], [-1, 1, -1, 22, 10, 8, 9, 1, 10, 10, -1, -1, -1, 11, -1, 8], [-1, -1, -1, 26, 13, 14, 15, -1, -1, -1, -1, -1, -1, -1, -1, 14], [-1, -1, -1, 27, 19, 20, 21, -1, -1, -1, -1, -1, -1, -1, -1, 20], [-1, -1, -1, -1, 13, 14, 15, -1, -1, -1, -1, -1, -1, -1, -1, 14], [-1, -1, -1, -1, 19, 20, 21, -1, -1, -1, -1, -1, -1, -1, -1, 20]]
def rl2 : List Int := [-1, 0, 1, 3, 0, 2, 0, 0, 0, 0, 0, 0, 1, -1, 1, 1, 3, 0, 2, -1, 2, 2, 0, 0, 1, 2, 1, 2]
theorem bld2 : buildN gr2 = some nf2 := by kernel_rfl
theorem cmp2 : compM nf2 60 = some (nx2, rl2) := by kernel_rfl
theorem okg2 : ∀ r ∈ gr2, okR r := fun r hr => okL_get (l := gr2) (by simp [gr2, okL, okR]) r hr
theorem told2 : PureF Tryz.prog A 70 [rxsD gr2] (.tup [dfaD ⟨nx2, rl2⟩, .int .i64 0]) := by
  have h := dbuild_ok gr2 (fun _ => okg2) (by decide)
  rw [dbuild_comp bld2 cmp2] at h
  exact h
def gr3 : List Rx := [.mk 2 0 [.mk 1 1158 [], .mk 4 0 [.mk 1 36872 []], .mk 4 0 [.mk 2 0 [.mk 1 2048 [], .mk 1 134 [], .mk 5 0 [.mk 1 8 []]]], .mk 4 0 [.mk 1 32800 []], .mk 4 0 [.mk 1 64 []], .mk 4 0 [.mk 1 8192 []]], .mk 2 0 [.mk 1 47208 [], .mk 4 0 [.mk 1 47208 []]]]
def nf3 : Nfa := ⟨[[1, 33], [2], [], [4], [5, 7], [], [5, 7], [8], [9, 19], [10], [], [12], [], [14], [15, 17], [], [17], [18], [9, 19], [20], [21, 23], [], [21, 23], [24], [25, 27], [], [25, 27], [28], [29, 31], [], [29, 31], [32], [], [34], [], [36], [37, 39], [], [37, 39], [40], []], [0, 0, 1158, 0, 0, 36872, 0, 0, 0, 0, 2048, 0, 134, 0, 0, 8, 0, 0, 0, 0, 0, 32800, 0, 0, 0, 64, 0, 0, 0, 8192, 0, 0, 0, 0, 47208, 0, 0, 47208, 0, 0, 0], [0, 0, 3, 0, 0, 6, 0, 0, 0, 0, 11, 0, 13, 0, 0, 16, 0, 0, 0, 0, 0, 22, 0, 0, 0, 26, 0, 0, 0, 30, 0, 0, 0, 0, 35, 0, 0, 38, 0, 0, 0], [-1, -1, -1, -1, -1, -1, -1, -1, -1, -1, -1, -1, -1, -1, -1, -1, -1, -1, -1, -1, -1, -1, -1, -1, -1, -1, -1, -1, -1, -1, -1, -1, 0, -1, -1, -1, -1, -1, -1, -1, 1]⟩
def nx3 : List (List Int) := [[-1, 1, 1, 2, -1, 2, 2, 1, -1, -1, 1, 2, 2, 2, -1, 2], [-1, -1, -1, 3, -1, 4, 5, -1, -1, -1, -1, 6, 3, 7, -1, 8], [-1, -1, -1, 9, -1, 9, 9, -1, -1, -1, -1, 9, 9, 9, -1, 9], [-1, -1, -1, 3, -1, 4, 5, -1, -1, -1, -1, 6, 3, 7, -1, 8], [-1, -1, -1, -1, -1, 4, 5, -1, -1, -1, -1, -1, -1, 7, -1, 4], [-1, -1, -1, -1, -1, -1, 5, -1, -1, -1, -1, -1, -1, 7, -1, -1], [-1, 10, 10, -1, -1, -1, -1, 10, -1, -1, -1, -1, -1, -1, -1, -1], [-1, -1, -1, -1, -1, -1, -1, -1, -1, -1, -1, -1, -1, 7, -1, -1], [-1, -1, -1, 3, -1, 4, 5, -1, -1, -1, -1, 6, 3, 7, -1, 8], [-1, -1, -1, 9, -1, 9, 9, -1, -1, -1, -1, 9, 9, 9, -1, 9], [-1, -1, -1, 11, -1, 4, 5, -1, -1, -1, -1, 6, -1, 7, -1, 4], [-1, -1, -1, -1, -1, 4, 5, -1, -1, -1, -1, 6, -1, 7, -1, 4]]
def rl3 : List Int := [-1, 0, 1, 0, 0, 0, -1, 0, 0, 1, 0, 0]
theorem bld3 : buildN gr3 = some nf3 := by kernel_rfl
theorem cmp3 : compM nf3 60 = some (nx3, rl3) := by kernel_rfl
theorem okg3 : ∀ r ∈ gr3, okR r := fun r hr => okL_get (l := gr3) (by simp [gr3, okL, okR]) r hr
theorem told3 : PureF Tryz.prog A 70 [rxsD gr3] (.tup [dfaD ⟨nx3, rl3⟩, .int .i64 0]) := by
  have h := dbuild_ok gr3 (fun _ => okg3) (by decide)
  rw [dbuild_comp bld3 cmp3] at h
  exact h
def gr4 : List Rx := [.mk 2 0 [.mk 5 0 [.mk 2 0 [.mk 1 128 [], .mk 1 4096 [], .mk 1 2048 []]], .mk 1 17542 [], .mk 5 0 [.mk 1 8 []], .mk 4 0 [.mk 2 0 [.mk 1 2048 [], .mk 1 130 [], .mk 5 0 [.mk 1 8 []]]], .mk 5 0 [.mk 1 4096 []], .mk 4 0 [.mk 1 8192 []], .mk 4 0 [.mk 1 32800 []], .mk 5 0 [.mk 1 4096 []], .mk 4 0 [.mk 1 64 []]], .mk 2 0 [.mk 1 47224 [], .mk 4 0 [.mk 1 47224 []]]]
def nf4 : Nfa := ⟨[[1, 51], [2], [3, 11], [4], [], [6], [], [8], [], [10], [11], [12], [], [14], [15, 17], [], [17], [18], [19, 29], [20], [], [22], [], [24], [25, 27], [], [27], [28], [19, 29], [30], [31, 33], [], [33], [34], [35, 37], [], [35, 37], [38], [39, 41], [], [39, 41], [42], [43, 45], [], [45], [46], [47, 49], [], [47, 49], [50], [], [52], [], [54], [55, 57], [], [55, 57], [58], []], [0, 0, 0, 0, 128, 0, 4096, 0, 2048, 0, 0, 0, 17542, 0, 0, 8, 0, 0, 0, 0, 2048, 0, 130, 0, 0, 8, 0, 0, 0, 0, 0, 4096, 0, 0, 0, 8192, 0, 0, 0, 32800, 0, 0, 0, 4096, 0, 0, 0, 64, 0, 0, 0, 0, 47224, 0, 0, 47224, 0, 0, 0], [0, 0, 0, 0, 5, 0, 7, 0, 9, 0, 0, 0, 13, 0, 0, 16, 0, 0, 0, 0, 21, 0, 23, 0, 0, 26, 0, 0, 0, 0, 0, 32, 0, 0, 0, 36, 0, 0, 0, 40, 0, 0, 0, 44, 0, 0, 0, 48, 0, 0, 0, 0, 53, 0, 0, 56, 0, 0, 0], [-1, -1, -1, -1, -1, -1, -1, -1, -1, -1, -1, -1, -1, -1, -1, -1, -1, -1, -1, -1, -1, -1, -1, -1, -1, -1, -1, -1, -1, -1, -1, -1, -1, -1, -1, -1, -1, -1, -1, -1, -1, -1, -1, -1, -1, -1, -1, -1, -1, -1, 0, -1, -1, -1, -1, -1, -1, -1, 1]⟩
def nx4 : List (List Int) := [[-1, 1, 1, 2, 2, 2, 2, 3, -1, -1, 1, 2, 2, 2, 1, 2], [-1, -1, -1, 4, -1, 5, 6, -1, -1, -1, -1, 7, 8, 9, -1, 5], [-1, -1, -1, 10, 10, 10, 10, -1, -1, -1, -1, 10, 10, 10, -1, 10], [-1, -1, -1, 4, -1, 5, 6, -1, -1, -1, -1, 7, 11, 9, -1, 5], [-1, -1, -1, -1, -1, 5, 6, -1, -1, -1, -1, 7, 8, 9, -1, 5], [-1, -1, -1, -1, -1, 5, 6, -1, -1, -1, -1, -1, 12, -1, -1, 5], [-1, -1, -1, -1, -1, -1, 6, -1, -1, -1, -1, -1, -1, -1, -1, -1], [-1, 13, -1, -1, -1, -1, -1, 13, -1, -1, -1, -1, -1, -1, -1, -1], [-1, -1, -1, -1, -1, 5, 6, -1, -1, -1, -1, -1, 12, 9, -1, 5], [-1, -1, -1, -1, -1, 5, 6, -1, -1, -1, -1, -1, 12, 9, -1, 5], [-1, -1, -1, 10, 10, 10, 10, -1, -1, -1, -1, 10, 10, 10, -1, 10], [-1, -1, -1, -1, -1, 5, 6, -1, -1, -1, -1, 14, 12, 9, -1, 5], [-1, -1, -1, -1, -1, -1, 6, -1, -1, -1, -1, -1, -1, -1, -1, -1], [-1, -1, -1, 15, -1, 5, 6, -1, -1, -1, -1, 7, 8, 9, -1, 5], [-1, 1, 1, -1, -1, -1, -1, 1, -1, -1, 1, -1, -1, -1, 1, -1], [-1, -1, -1, -1, -1, 5, 6, -1, -1, -1, -1, 7, 8, 9, -1, 5]]
def rl4 : List Int := [-1, 0, 1, 0, 0, 0, 0, -1, 0, 0, 1, 0, 0, 0, -1, 0]
theorem bld4 : buildN gr4 = some nf4 := by kernel_rfl
theorem cmp4 : compM nf4 60 = some (nx4, rl4) := by kernel_rfl
theorem okg4 : ∀ r ∈ gr4, okR r := fun r hr => okL_get (l := gr4) (by simp [gr4, okL, okR]) r hr
theorem told4 : PureF Tryz.prog A 70 [rxsD gr4] (.tup [dfaD ⟨nx4, rl4⟩, .int .i64 0]) := by
  have h := dbuild_ok gr4 (fun _ => okg4) (by decide)
  rw [dbuild_comp bld4 cmp4] at h
  exact h
end Go.Proofs.W
end
/- The four grammars: their texts read: closed runs. -/
section
set_option maxHeartbeats 4000000
set_option linter.unusedVariables false
set_option linter.unusedSimpArgs false
namespace Go.Proofs.W
open Go Vm Go.Proofs.Zs25

def tx1 : List UInt8 := [115, 116, 100, 58, 32, 91, 67, 82, 86, 68, 81, 93, 78, 63, 40, 72, 91, 74, 87, 93, 63, 91, 67, 82, 93, 78, 63, 41, 42, 91, 72, 74, 87, 93, 42, 84, 42, 91, 77, 88, 93, 42, 83, 42, 10, 98, 97, 100, 33, 58, 32, 91, 78, 72, 77, 83, 84, 88, 74, 87, 93, 43]
def ru1 : D := .tup [.sl false [.agg (.str [115, 116, 100] :: (rxD (gr1.getD 0 default)).cells ++ [.bool false]), .agg (.str [98, 97, 100] :: (rxD (gr1.getD 1 default)).cells ++ [.bool true])], .int .i64 0, .int .i64 0]
theorem prs1 : PureF Tryz.prog A 27 [.str tx1] ru1 := tells_pure (k := 300) (by kernel_rfl)
def tx2 : List UInt8 := [99, 111, 110, 115, 58, 32, 40, 91, 67, 82, 93, 78, 63, 72, 91, 74, 87, 93, 63, 41, 42, 91, 67, 82, 93, 78, 63, 91, 72, 74, 87, 93, 42, 84, 42, 91, 77, 88, 93, 42, 78, 63, 83, 42, 10, 118, 111, 119, 58, 32, 40, 82, 72, 41, 63, 86, 78, 63, 40, 72, 91, 67, 82, 93, 78, 63, 41, 42, 91, 77, 88, 93, 42, 83, 42, 10, 112, 108, 97, 99, 101, 58, 32, 91, 68, 81, 93, 78, 63, 40, 72, 91, 67, 82, 93, 78, 63, 41, 42, 91, 77, 88, 93, 42, 83, 42, 10, 98, 97, 100, 33, 58, 32, 91, 78, 72, 77, 83, 84, 88, 74, 87, 93, 43]
def ru2 : D := .tup [.sl false [.agg (.str [99, 111, 110, 115] :: (rxD (gr2.getD 0 default)).cells ++ [.bool false]), .agg (.str [118, 111, 119] :: (rxD (gr2.getD 1 default)).cells ++ [.bool false]), .agg (.str [112, 108, 97, 99, 101] :: (rxD (gr2.getD 2 default)).cells ++ [.bool false]), .agg (.str [98, 97, 100] :: (rxD (gr2.getD 3 default)).cells ++ [.bool true])], .int .i64 0, .int .i64 0]
theorem prs2 : PureF Tryz.prog A 27 [.str tx2] ru2 := tells_pure (k := 300) (by kernel_rfl)
def tx3 : List UInt8 := [115, 121, 108, 58, 32, 91, 67, 82, 86, 68, 93, 91, 78, 71, 88, 93, 42, 40, 75, 91, 67, 82, 86, 93, 78, 63, 41, 42, 91, 77, 88, 93, 42, 83, 42, 84, 42, 10, 98, 97, 100, 33, 58, 32, 91, 78, 75, 71, 77, 83, 88, 84, 93, 43]
def ru3 : D := .tup [.sl false [.agg (.str [115, 121, 108] :: (rxD (gr3.getD 0 default)).cells ++ [.bool false]), .agg (.str [98, 97, 100] :: (rxD (gr3.getD 1 default)).cells ++ [.bool true])], .int .i64 0, .int .i64 0]
theorem prs3 : PureF Tryz.prog A 27 [.str tx3] ru3 := tells_pure (k := 300) (by kernel_rfl)
def tx4 : List UInt8 := [115, 121, 108, 58, 32, 40, 82, 71, 75, 41, 63, 91, 67, 82, 86, 68, 81, 93, 78, 63, 40, 75, 91, 67, 82, 93, 78, 63, 41, 42, 71, 63, 84, 42, 91, 77, 88, 93, 42, 71, 63, 83, 42, 10, 98, 97, 100, 33, 58, 32, 91, 78, 75, 71, 77, 83, 88, 84, 72, 93, 43]
def ru4 : D := .tup [.sl false [.agg (.str [115, 121, 108] :: (rxD (gr4.getD 0 default)).cells ++ [.bool false]), .agg (.str [98, 97, 100] :: (rxD (gr4.getD 1 default)).cells ++ [.bool true])], .int .i64 0, .int .i64 0]
theorem prs4 : PureF Tryz.prog A 27 [.str tx4] ru4 := tells_pure (k := 300) (by kernel_rfl)
end Go.Proofs.W
end
/- The four grammars: their texts read, their least machines: closed runs. -/
section
set_option maxHeartbeats 4000000
set_option linter.unusedVariables false
set_option linter.unusedSimpArgs false
namespace Go.Proofs.W
open Go Vm Go.Proofs.Zs25

def mx1 : List (List Int) := [[-1, 1, 1, 2, 2, 2, 2, 1, 2, 2, 1, -1, -1, 2, 1, 2], [-1, -1, -1, 3, 4, 5, 6, -1, 7, 7, -1, -1, -1, 8, -1, 5], [-1, -1, -1, 2, 2, 2, 2, -1, 2, 2, -1, -1, -1, 2, -1, 2], [-1, -1, -1, -1, 4, 5, 6, -1, 7, 7, -1, -1, -1, 8, -1, 5], [-1, 1, -1, -1, 7, 5, 6, 1, 9, 9, -1, -1, -1, 8, -1, 5], [-1, -1, -1, -1, -1, 5, 6, -1, -1, -1, -1, -1, -1, -1, -1, 5], [-1, -1, -1, -1, -1, -1, 6, -1, -1, -1, -1, -1, -1, -1, -1, -1], [-1, -1, -1, -1, 7, 5, 6, -1, 7, 7, -1, -1, -1, 8, -1, 5], [-1, -1, -1, -1, -1, 5, 6, -1, -1, -1, -1, -1, -1, 8, -1, 5], [-1, 1, -1, -1, 7, 5, 6, 1, 7, 7, -1, -1, -1, 8, -1, 5]]
def ml1 : List Int := [-1, 0, 1, 0, 0, 0, 0, 0, 0, 0]
theorem sml1 : PureF Tryz.prog A 71 [dfaD ⟨nx1, rl1⟩] (dfaD ⟨mx1, ml1⟩) := tells_pure (k := 300) (by kernel_rfl)
def mx2 : List (List Int) := [[-1, 1, 2, 3, 3, 3, 3, 4, 3, 3, 5, -1, -1, 3, 5, 3], [-1, -1, -1, 6, 7, 8, 9, -1, 10, 10, -1, -1, -1, 11, -1, 8], [-1, -1, -1, 12, 13, 14, 15, -1, -1, -1, -1, -1, -1, -1, -1, 14], [-1, -1, -1, 3, 3, 3, 3, -1, 3, 3, -1, -1, -1, 3, -1, 3], [-1, -1, -1, 6, 16, 8, 9, -1, 10, 10, -1, -1, -1, 11, -1, 8], [-1, -1, -1, 17, 18, 19, 20, -1, -1, -1, -1, -1, -1, -1, -1, 19], [-1, -1, -1, 9, 7, 8, 9, -1, 10, 10, -1, -1, -1, 11, -1, 8], [-1, 1, -1, 9, 10, 8, 9, 1, 21, 21, -1, -1, -1, 11, -1, 8], [-1, -1, -1, 9, -1, 8, 9, -1, -1, -1, -1, -1, -1, -1, -1, 8], [-1, -1, -1, -1, -1, -1, 9, -1, -1, -1, -1, -1, -1, -1, -1, -1], [-1, -1, -1, 9, 10, 8, 9, -1, 10, 10, -1, -1, -1, 11, -1, 8], [-1, -1, -1, 9, -1, 8, 9, -1, -1, -1, -1, -1, -1, 11, -1, 8], [-1, -1, -1, -1, 13, 14, 15, -1, -1, -1, -1, -1, -1, -1, -1, 14], [-1, 2, -1, -1, -1, -1, -1, 2, -1, -1, -1, -1, -1, -1, -1, -1], [-1, -1, -1, -1, -1, 14, 15, -1, -1, -1, -1, -1, -1, -1, -1, 14], [-1, -1, -1, -1, -1, -1, 15, -1, -1, -1, -1, -1, -1, -1, -1, -1], [-1, 1, 2, 9, 10, 8, 9, 1, 21, 21, -1, -1, -1, 11, -1, 8], [-1, -1, -1, -1, 18, 19, 20, -1, -1, -1, -1, -1, -1, -1, -1, 19], [-1, 5, -1, -1, -1, -1, -1, 5, -1, -1, -1, -1, -1, -1, -1, -1], [-1, -1, -1, -1, -1, 19, 20, -1, -1, -1, -1, -1, -1, -1, -1, 19], [-1, -1, -1, -1, -1, -1, 20, -1, -1, -1, -1, -1, -1, -1, -1, -1], [-1, 1, -1, 9, 10, 8, 9, 1, 10, 10, -1, -1, -1, 11, -1, 8]]
def ml2 : List Int := [-1, 0, 1, 3, 0, 2, 0, 0, 0, 0, 0, 0, 1, -1, 1, 1, 0, 2, -1, 2, 2, 0]
def mx3 : List (List Int) := [[-1, 1, 1, 2, -1, 2, 2, 1, -1, -1, 1, 2, 2, 2, -1, 2], [-1, -1, -1, 1, -1, 3, 4, -1, -1, -1, -1, 5, 1, 6, -1, 1], [-1, -1, -1, 2, -1, 2, 2, -1, -1, -1, -1, 2, 2, 2, -1, 2], [-1, -1, -1, -1, -1, 3, 4, -1, -1, -1, -1, -1, -1, 6, -1, 3], [-1, -1, -1, -1, -1, -1, 4, -1, -1, -1, -1, -1, -1, 6, -1, -1], [-1, 7, 7, -1, -1, -1, -1, 7, -1, -1, -1, -1, -1, -1, -1, -1], [-1, -1, -1, -1, -1, -1, -1, -1, -1, -1, -1, -1, -1, 6, -1, -1], [-1, -1, -1, 8, -1, 3, 4, -1, -1, -1, -1, 5, -1, 6, -1, 3], [-1, -1, -1, -1, -1, 3, 4, -1, -1, -1, -1, 5, -1, 6, -1, 3]]
def ml3 : List Int := [-1, 0, 1, 0, 0, -1, 0, 0, 0]
theorem sml3 : PureF Tryz.prog A 71 [dfaD ⟨nx3, rl3⟩] (dfaD ⟨mx3, ml3⟩) := tells_pure (k := 300) (by kernel_rfl)
def mx4 : List (List Int) := [[-1, 1, 1, 2, 2, 2, 2, 3, -1, -1, 1, 2, 2, 2, 1, 2], [-1, -1, -1, 4, -1, 5, 6, -1, -1, -1, -1, 7, 8, 8, -1, 5], [-1, -1, -1, 2, 2, 2, 2, -1, -1, -1, -1, 2, 2, 2, -1, 2], [-1, -1, -1, 4, -1, 5, 6, -1, -1, -1, -1, 7, 9, 8, -1, 5], [-1, -1, -1, -1, -1, 5, 6, -1, -1, -1, -1, 7, 8, 8, -1, 5], [-1, -1, -1, -1, -1, 5, 6, -1, -1, -1, -1, -1, 6, -1, -1, 5], [-1, -1, -1, -1, -1, -1, 6, -1, -1, -1, -1, -1, -1, -1, -1, -1], [-1, 1, -1, -1, -1, -1, -1, 1, -1, -1, -1, -1, -1, -1, -1, -1], [-1, -1, -1, -1, -1, 5, 6, -1, -1, -1, -1, -1, 6, 8, -1, 5], [-1, -1, -1, -1, -1, 5, 6, -1, -1, -1, -1, 10, 6, 8, -1, 5], [-1, 1, 1, -1, -1, -1, -1, 1, -1, -1, 1, -1, -1, -1, 1, -1]]
def ml4 : List Int := [-1, 0, 1, 0, 0, 0, 0, -1, 0, 0, -1]
theorem sml4 : PureF Tryz.prog A 71 [dfaD ⟨nx4, rl4⟩] (dfaD ⟨mx4, ml4⟩) := tells_pure (k := 300) (by kernel_rfl)
end Go.Proofs.W
end
/- Functions of memory of their own, told at once at several known arguments. -/
section
set_option linter.unusedVariables false
namespace Vm
open Go
def tabF (bs : List D) : List (List D × D) → Option D
  | [] => none
  | (al, d) :: t => if eqPlL bs al = true then some d else tabF bs t
def tabP (t : List (List D × D)) : List D → Heap → Option R := fun args H => (pures H args).bind fun (bs, H') => (tabF bs t).map fun d => .ok d (if flat d then H else H')
theorem tabF_mem {bs : List D} {d : D} : ∀ {t : List (List D × D)}, tabF bs t = some d → (bs, d) ∈ t
  | [], h => by cases h
  | (al, d') :: t, h => by
    simp only [tabF] at h
    split at h
    · rename_i he
      cases h
      rw [eqPlL_eq he]
      exact List.mem_cons_self
    · exact List.mem_cons_of_mem _ (tabF_mem h)
theorem tab_calls [Base] {P : Program} {A : Ann} {f : FuncId} {t : List (List D × D)} {args : List D} {H : Heap} {r : R} (hmo : P.follows .mixedOrders = true) (hA : PrimOk P A) (hb : bodied P f = true) (hq : primQ A f = false) (hm : A.mode f = .pure) (hp : ∀ x ∈ t, PureF P A f x.1 x.2) (h : tabP t args H = some r)
    {ρ : Rho} {im : Im} {w : World} {vs : List Value} (hR : Rel ρ im H w) (hvs : RepA ρ H.length im vs args) : Calls P f ⟨vs⟩ w (OutR ρ im H w r) := by
  unfold tabP at h
  obtain ⟨⟨bs, H'⟩, h1, h2⟩ := bind_some h
  simp only at h2
  cases hf : tabF bs t with
  | none => rw [hf] at h2; cases h2
  | some d =>
    rw [hf] at h2
    cases h2
    have hpd : PureF P A f bs d := hp _ (tabF_mem hf)
    obtain ⟨k, res, h3, h4⟩ := hpd
    cases res with
    | pan d' H' => exact h4.elim
    | ok d' Hc =>
      have hc : callD P A (runF P A k) f args H = some (.ok d (if flat d then H else H')) := by
        simp only [callD, hb, Bool.true_eq_false, if_false, (primQ_none hq).1, (primQ_none hq).2, hm, h1, Option.bind_some, h3]
        rw [if_neg (by decide), h4]
        rfl
      rcases callD_ok hA (runF_ok hmo hA k) hR hvs hc with ⟨_, hcalls⟩ | ⟨_, _, _, _, _, hx, _⟩
      · exact hcalls
      · rw [callFunc_run hb] at hx
        cases hx
end Vm
end
/- The greatest of the four machines: its least one, in pieces: closed runs. -/
section
set_option maxHeartbeats 4000000
set_option linter.unusedVariables false
set_option linter.unusedSimpArgs false
namespace Go.Proofs.W
open Go Vm Go.Proofs.Zs25

def al2 : List (List Int) := [[-1, 1, 2, 3, 3, 3, 3, 4, 3, 3, 5, -1, -1, 3, 5, 3], [-1, -1, -1, 6, 7, 8, 9, -1, 10, 10, -1, -1, -1, 11, -1, 8], [-1, -1, -1, 12, 13, 14, 15, -1, -1, -1, -1, -1, -1, -1, -1, 14], [-1, -1, -1, 16, 16, 16, 16, -1, 16, 16, -1, -1, -1, 16, -1, 16], [-1, -1, -1, 6, 17, 8, 9, -1, 10, 10, -1, -1, -1, 11, -1, 8], [-1, -1, -1, 18, 19, 20, 21, -1, -1, -1, -1, -1, -1, -1, -1, 20], [-1, -1, -1, 22, 7, 8, 9, -1, 10, 10, -1, -1, -1, 11, -1, 8], [-1, 1, -1, 22, 10, 8, 9, 1, 23, 23, -1, -1, -1, 11, -1, 8], [-1, -1, -1, 22, -1, 8, 9, -1, -1, -1, -1, -1, -1, -1, -1, 8], [-1, -1, -1, -1, -1, -1, 9, -1, -1, -1, -1, -1, -1, -1, -1, -1], [-1, -1, -1, 22, 10, 8, 9, -1, 10, 10, -1, -1, -1, 11, -1, 8], [-1, -1, -1, 22, -1, 8, 9, -1, -1, -1, -1, -1, -1, 11, -1, 8], [-1, -1, -1, -1, 13, 14, 15, -1, -1, -1, -1, -1, -1, -1, -1, 14], [-1, 24, -1, -1, -1, -1, -1, 24, -1, -1, -1, -1, -1, -1, -1, -1], [-1, -1, -1, -1, -1, 14, 15, -1, -1, -1, -1, -1, -1, -1, -1, 14], [-1, -1, -1, -1, -1, -1, 15, -1, -1, -1, -1, -1, -1, -1, -1, -1], [-1, -1, -1, 16, 16, 16, 16, -1, 16, 16, -1, -1, -1, 16, -1, 16], [-1, 1, 2, 22, 10, 8, 9, 1, 23, 23, -1, -1, -1, 11, -1, 8], [-1, -1, -1, -1, 19, 20, 21, -1, -1, -1, -1, -1, -1, -1, -1, 20], [-1, 25, -1, -1, -1, -1, -1, 25, -1, -1, -1, -1, -1, -1, -1, -1], [-1, -1, -1, -1, -1, 20, 21, -1, -1, -1, -1, -1, -1, -1, -1, 20], [-1, -1, -1, -1, -1, -1, 21, -1, -1, -1, -1, -1, -1, -1, -1, -1], [-1, -1, -1, -1, -1, -1, 9, -1, -1, -1, -1, -1, -1, -1, -1, -1], [-1, 1, -1, 22, 10, 8, 9, 1, 10, 10, -1, -1, -1, 11, -1, 8], [-1, -1, -1, 26, 13, 14, 15, -1, -1, -1, -1, -1, -1, -1, -1, 14], [-1, -1, -1, 27, 19, 20, 21, -1, -1, -1, -1, -1, -1, -1, -1, 20], [-1, -1, -1, -1, 13, 14, 15, -1, -1, -1, -1, -1, -1, -1, -1, 14], [-1, -1, -1, -1, 19, 20, 21, -1, -1, -1, -1, -1, -1, -1, -1, 20]]
theorem alv2 : PureF Tryz.prog A 94 [dfaD ⟨nx2, rl2⟩] (dfaD ⟨al2, rl2⟩) := tells_pure (k := 300) (by kernel_rfl)
def cl2_0 : List Int := [-1, 0, 1, 3, 0, 2, 0, 0, 0, 0, 0, 0, 1, -1, 1, 1, 3, 0, 2, -1, 2, 2, 0, 0, 1, 2, 1, 2]
theorem rf2_0 : PureF Tryz.prog A 121 [dfaD ⟨al2, rl2⟩, isD cl2_0] (.tup [isD [0, 1, 2, 3, 1, 4, 1, 5, 6, 7, 1, 8, 9, 10, 9, 11, 3, 12, 13, 14, 13, 15, 7, 5, 2, 4, 9, 13], .int .i64 16]) := tells_pure (k := 300) (by kernel_rfl)
def cl2_1 : List Int := [0, 1, 2, 3, 1, 4, 1, 5, 6, 7, 1, 8, 9, 10, 9, 11, 3, 12, 13, 14, 13, 15, 7, 5, 2, 4, 9, 13]
theorem rf2_1 : PureF Tryz.prog A 121 [dfaD ⟨al2, rl2⟩, isD cl2_1] (.tup [isD [0, 1, 2, 3, 4, 5, 6, 7, 8, 9, 10, 11, 12, 13, 14, 15, 3, 16, 17, 18, 19, 20, 9, 21, 2, 5, 12, 17], .int .i64 22]) := tells_pure (k := 300) (by kernel_rfl)
def cl2_2 : List Int := [0, 1, 2, 3, 4, 5, 6, 7, 8, 9, 10, 11, 12, 13, 14, 15, 3, 16, 17, 18, 19, 20, 9, 21, 2, 5, 12, 17]
theorem rf2_2 : PureF Tryz.prog A 121 [dfaD ⟨al2, rl2⟩, isD cl2_2] (.tup [isD [0, 1, 2, 3, 4, 5, 6, 7, 8, 9, 10, 11, 12, 13, 14, 15, 3, 16, 17, 18, 19, 20, 9, 21, 2, 5, 12, 17], .int .i64 22]) := tells_pure (k := 300) (by kernel_rfl)
def cl2 : List Int := [0, 1, 2, 3, 4, 5, 6, 7, 8, 9, 10, 11, 12, 13, 14, 15, 3, 16, 17, 18, 19, 20, 9, 21, 2, 5, 12, 17]
def rfT : List (List D × D) := [([dfaD ⟨al2, rl2⟩, isD cl2_0], .tup [isD [0, 1, 2, 3, 1, 4, 1, 5, 6, 7, 1, 8, 9, 10, 9, 11, 3, 12, 13, 14, 13, 15, 7, 5, 2, 4, 9, 13], .int .i64 16]), ([dfaD ⟨al2, rl2⟩, isD cl2_1], .tup [isD [0, 1, 2, 3, 4, 5, 6, 7, 8, 9, 10, 11, 12, 13, 14, 15, 3, 16, 17, 18, 19, 20, 9, 21, 2, 5, 12, 17], .int .i64 22]), ([dfaD ⟨al2, rl2⟩, isD cl2_2], .tup [isD [0, 1, 2, 3, 4, 5, 6, 7, 8, 9, 10, 11, 12, 13, 14, 15, 3, 16, 17, 18, 19, 20, 9, 21, 2, 5, 12, 17], .int .i64 22])]
theorem rfT_ok : ∀ x ∈ rfT, PureF Tryz.prog A 121 x.1 x.2 := fun x hx => by
  simp only [rfT, List.mem_cons, List.not_mem_nil, or_false] at hx
  rcases hx with rfl | rfl | rfl
  · exact rf2_0
  · exact rf2_1
  · exact rf2_2
def Aq1 : Ann := { mode := A.mode, prim := fun f => if f = 94 then some (tabP [([dfaD ⟨nx2, rl2⟩], dfaD ⟨al2, rl2⟩)]) else if f = 121 then some (tabP rfT) else A.prim f, fz := A.fz, bl := A.bl, rd := A.rd }
theorem cls2 : PureF Tryz.prog Aq1 93 [dfaD ⟨nx2, rl2⟩] (isD cl2) := tells_pure (k := 300) (by kernel_rfl)
def Aq2 : Ann := { mode := A.mode, prim := fun f => if f = 94 then some (tabP [([dfaD ⟨nx2, rl2⟩], dfaD ⟨al2, rl2⟩)]) else if f = 93 then some (tabP [([dfaD ⟨nx2, rl2⟩], isD cl2)]) else A.prim f, fz := A.fz, bl := A.bl, rd := A.rd }
theorem sml2 : PureF Tryz.prog Aq2 71 [dfaD ⟨nx2, rl2⟩] (dfaD ⟨mx2, ml2⟩) := tells_pure (k := 300) (by kernel_rfl)
end Go.Proofs.W
end
/- The chapter on models: what is told at once; a run. -/
section
set_option maxHeartbeats 4000000
set_option linter.unusedVariables false
set_option linter.unusedSimpArgs false
namespace Go.Proofs.W
open Go Vm Go.Proofs.Zs25

def dbT : List (List D × D) := [([rxsD gr1], .tup [dfaD ⟨nx1, rl1⟩, .int .i64 0]), ([rxsD gr2], .tup [dfaD ⟨nx2, rl2⟩, .int .i64 0]), ([rxsD gr3], .tup [dfaD ⟨nx3, rl3⟩, .int .i64 0]), ([rxsD gr4], .tup [dfaD ⟨nx4, rl4⟩, .int .i64 0])]
def smT : List (List D × D) := [([dfaD ⟨nx1, rl1⟩], dfaD ⟨mx1, ml1⟩), ([dfaD ⟨nx3, rl3⟩], dfaD ⟨mx3, ml3⟩), ([dfaD ⟨nx4, rl4⟩], dfaD ⟨mx4, ml4⟩)]
def prT : List (List D × D) := [([.str tx1], ru1), ([.str tx2], ru2), ([.str tx3], ru3), ([.str tx4], ru4)]
/-- the three of the lesser machines, and the texts -/
def B0 : Ann := { mode := A.mode, prim := fun f => if f = 70 then some (tabP dbT) else if f = 27 then some (tabP prT) else A.prim f, fz := A.fz, bl := A.bl, rd := A.rd }
def smF (args : List D) (H : Heap) : Option R := match tabP smT args H with
  | some r => some r
  | none => onlyP [dfaD ⟨nx2, rl2⟩] (dfaD ⟨mx2, ml2⟩) args H
def B : Ann := { mode := A.mode, prim := fun f => if f = 71 then some smF else B0.prim f, fz := A.fz, bl := A.bl, rd := A.rd }
theorem B_fz (t : TypeId) : B.fz t = (t == 38) := rfl
attribute [go_sem] B_fz
theorem alive_run : okTrue (runF Tryz.prog B 300 8 [] []) = true := by kernel_rfl
end Go.Proofs.W
end
/- The chapter on models: what is told at once holds of the calls. -/
section
set_option maxHeartbeats 4000000
set_option linter.unusedVariables false
set_option linter.unusedSimpArgs false
namespace Go.Proofs.W
open Go Vm Go.Proofs.Zs25

theorem primAq1 [Base] (hB : ∃ m, Base.B 0 0 = some (.int .i64 m)) : PrimOk Tryz.prog Aq1 := by
  have h0 := primA hB
  refine ⟨h0.ext, h0.rd, fun f p h args H r hr ρ im w vs hR hvs => ?_⟩
  simp only [Aq1] at h
  split at h
  · rename_i e; subst e; cases h
    exact tab_calls mixed h0 bo94 rfl rfl (fun x hx => by rw [List.mem_singleton.1 hx]; exact alv2) hr hR hvs
  split at h
  · rename_i e; subst e; cases h
    exact tab_calls mixed h0 bo121 rfl rfl rfT_ok hr hR hvs
  · exact h0.ok f p h args H r hr ρ im w vs hR hvs
theorem primAq2 [Base] (hB : ∃ m, Base.B 0 0 = some (.int .i64 m)) : PrimOk Tryz.prog Aq2 := by
  have h0 := primA hB
  have h1 := primAq1 hB
  refine ⟨h0.ext, h0.rd, fun f p h args H r hr ρ im w vs hR hvs => ?_⟩
  simp only [Aq2] at h
  split at h
  · rename_i e; subst e; cases h
    exact tab_calls mixed h0 bo94 rfl rfl (fun x hx => by rw [List.mem_singleton.1 hx]; exact alv2) hr hR hvs
  split at h
  · rename_i e; subst e; cases h
    exact tab_calls mixed h1 bo93 rfl rfl (fun x hx => by rw [List.mem_singleton.1 hx]; exact cls2) hr hR hvs
  · exact h0.ok f p h args H r hr ρ im w vs hR hvs
theorem dbT_ok : ∀ x ∈ dbT, PureF Tryz.prog A 70 x.1 x.2 := fun x hx => by
  simp only [dbT, List.mem_cons, List.not_mem_nil, or_false] at hx
  rcases hx with rfl | rfl | rfl | rfl
  · exact told1
  · exact told2
  · exact told3
  · exact told4
theorem prT_ok : ∀ x ∈ prT, PureF Tryz.prog A 27 x.1 x.2 := fun x hx => by
  simp only [prT, List.mem_cons, List.not_mem_nil, or_false] at hx
  rcases hx with rfl | rfl | rfl | rfl
  · exact prs1
  · exact prs2
  · exact prs3
  · exact prs4
theorem smT_ok : ∀ x ∈ smT, PureF Tryz.prog A 71 x.1 x.2 := fun x hx => by
  simp only [smT, List.mem_cons, List.not_mem_nil, or_false] at hx
  rcases hx with rfl | rfl | rfl
  · exact sml1
  · exact sml3
  · exact sml4
theorem primB0 [Base] (hB : ∃ m, Base.B 0 0 = some (.int .i64 m)) : PrimOk Tryz.prog B0 := by
  have h0 := primA hB
  refine ⟨h0.ext, h0.rd, fun f p h args H r hr ρ im w vs hR hvs => ?_⟩
  simp only [B0] at h
  split at h
  · rename_i e; subst e; cases h
    exact tab_calls mixed h0 bo70 rfl rfl dbT_ok hr hR hvs
  split at h
  · rename_i e; subst e; cases h
    exact tab_calls mixed h0 bo27 rfl rfl prT_ok hr hR hvs
  · exact h0.ok f p h args H r hr ρ im w vs hR hvs
theorem primB [Base] (hB : ∃ m, Base.B 0 0 = some (.int .i64 m)) : PrimOk Tryz.prog B := by
  have h0 := primA hB
  have h2 := primAq2 hB
  have hb := primB0 hB
  refine ⟨h0.ext, h0.rd, fun f p h args H r hr ρ im w vs hR hvs => ?_⟩
  simp only [B] at h
  split at h
  · rename_i e; subst e; cases h
    simp only [smF] at hr
    cases hq : tabP smT args H with
    | some r' =>
      rw [hq] at hr
      cases hr
      exact tab_calls mixed h0 bo71 rfl rfl smT_ok hq hR hvs
    | none =>
      rw [hq] at hr
      exact only_calls mixed h2 bo71 rfl rfl sml2 hr hR hvs
  · exact hb.ok f p h args H r hr ρ im w vs hR hvs
end Go.Proofs.W
end
/- Models, stages, features' bits: what is told of known tags and kinds: closed runs. -/
section
set_option maxHeartbeats 4000000
set_option linter.unusedVariables false
set_option linter.unusedSimpArgs false
namespace Go.Proofs.W
open Go Vm Go.Proofs.Zs25

def mdD (r : Int × List UInt8 × Bool × Int) : D := .agg [.int .i64 r.1, .str r.2.1, .bool r.2.2.1, .int .i64 r.2.2.2]
def rowsL : List (Int × List UInt8 × Bool × Int) := [(2, [100, 101, 118, 97], true, 8), (2, [98, 101, 110, 103], true, 5), (2, [103, 117, 114, 117], true, 5), (2, [103, 117, 106, 114], true, 8), (2, [111, 114, 121, 97], true, 4), (2, [116, 97, 109, 108], true, 9), (2, [116, 101, 108, 117], true, 9), (2, [107, 110, 100, 97], true, 9), (2, [109, 108, 121, 109], true, 4), (1, [115, 105, 110, 104], false, 6), (1, [106, 97, 118, 97], false, 6), (1, [98, 97, 108, 105], false, 6), (1, [99, 104, 97, 109], false, 6), (1, [108, 97, 110, 97], false, 6), (1, [116, 105, 98, 116], false, 6), (3, [107, 104, 109, 114], false, 4), (4, [109, 121, 109, 114], false, 4), (5, [97, 114, 97, 98], false, 0), (5, [115, 121, 114, 99], false, 0), (5, [109, 111, 110, 103], false, 0), (5, [116, 104, 97, 97], false, 0), (6, [104, 97, 110, 103], false, 0)]
def ssD (l : List (List UInt8)) : D := .sl false (l.map .str)
def tagsL : List (List UInt8) := [[100, 101, 118, 97], [98, 101, 110, 103], [103, 117, 114, 117], [103, 117, 106, 114], [111, 114, 121, 97], [116, 97, 109, 108], [116, 101, 108, 117], [107, 110, 100, 97], [109, 108, 121, 109], [115, 105, 110, 104], [106, 97, 118, 97], [98, 97, 108, 105], [99, 104, 97, 109], [108, 97, 110, 97], [116, 105, 98, 116], [107, 104, 109, 114], [109, 121, 109, 114], [97, 114, 97, 98], [115, 121, 114, 99], [109, 111, 110, 103], [116, 104, 97, 97], [104, 97, 110, 103]]
theorem tags_ok : PureF Tryz.prog B 13 [] (ssD tagsL) := tells_pure (k := 100) (by kernel_rfl)
theorem rtags_ok : PureF Tryz.prog B 9 [] (ssD tagsL) := tells_pure (k := 200) (by kernel_rfl)
theorem rows_ok : PureF Tryz.prog B 30 [] (.sl false (rowsL.map mdD)) := tells_pure (k := 100) (by kernel_rfl)
theorem of_run : (rowsL.all fun r => tells (runF Tryz.prog B 100 10 [.str r.2.1] []) (mdD r)) = true := by kernel_rfl
theorem rof_run : (rowsL.all fun r => tells (runF Tryz.prog B 200 11 [.str r.2.1] []) (mdD r)) = true := by kernel_rfl
theorem ofx_run : (rowsL.all fun r => tells (runF Tryz.prog B 100 10 [.str (r.2.1 ++ [120])] []) (mdD (0, r.2.1 ++ [120], false, 0))) = true := by kernel_rfl
def stD (s : List (List UInt8) × Bool) : D := .agg [ssD s.1, .bool s.2]
def stsD (l : List (List (List UInt8) × Bool)) : D := .sl false (l.map stD)
def st0 : List (List (List UInt8) × Bool) := [([[99, 99, 109, 112], [108, 111, 99, 108]], false), ([[108, 105, 103, 97], [99, 108, 105, 103], [114, 108, 105, 103], [99, 97, 108, 116]], false)]
theorem st0_ok : PureF Tryz.prog B 14 [.int .i64 0] (stsD st0) := tells_pure (k := 100) (by kernel_rfl)
theorem rst0_ok : PureF Tryz.prog B 15 [.int .i64 0] (stsD st0) := tells_pure (k := 200) (by kernel_rfl)
def st1 : List (List (List UInt8) × Bool) := [([[108, 111, 99, 108], [99, 99, 109, 112], [110, 117, 107, 116], [97, 107, 104, 110]], false), ([[114, 112, 104, 102]], false), ([[112, 114, 101, 102]], false), ([[114, 107, 114, 102], [97, 98, 118, 102], [98, 108, 119, 102], [104, 97, 108, 102], [112, 115, 116, 102], [118, 97, 116, 117], [99, 106, 99, 116]], true), ([[97, 98, 118, 115], [98, 108, 119, 115], [104, 97, 108, 110], [112, 114, 101, 115], [112, 115, 116, 115], [108, 105, 103, 97]], false)]
theorem st1_ok : PureF Tryz.prog B 14 [.int .i64 1] (stsD st1) := tells_pure (k := 100) (by kernel_rfl)
theorem rst1_ok : PureF Tryz.prog B 15 [.int .i64 1] (stsD st1) := tells_pure (k := 200) (by kernel_rfl)
def st2 : List (List (List UInt8) × Bool) := [([[108, 111, 99, 108], [99, 99, 109, 112]], false), ([[110, 117, 107, 116]], false), ([[97, 107, 104, 110]], false), ([[114, 112, 104, 102]], false), ([[114, 107, 114, 102]], false), ([[112, 114, 101, 102]], false), ([[98, 108, 119, 102]], false), ([[97, 98, 118, 102]], false), ([[104, 97, 108, 102]], false), ([[112, 115, 116, 102]], false), ([[118, 97, 116, 117]], false), ([[99, 106, 99, 116]], true), ([[112, 114, 101, 115], [97, 98, 118, 115], [98, 108, 119, 115], [112, 115, 116, 115], [104, 97, 108, 110], [108, 105, 103, 97]], false)]
theorem st2_ok : PureF Tryz.prog B 14 [.int .i64 2] (stsD st2) := tells_pure (k := 100) (by kernel_rfl)
theorem rst2_ok : PureF Tryz.prog B 15 [.int .i64 2] (stsD st2) := tells_pure (k := 200) (by kernel_rfl)
def st3 : List (List (List UInt8) × Bool) := [([[108, 111, 99, 108], [99, 99, 109, 112]], false), ([[112, 114, 101, 102]], false), ([[98, 108, 119, 102], [97, 98, 118, 102], [112, 115, 116, 102], [99, 102, 97, 114]], false), ([[112, 114, 101, 115], [97, 98, 118, 115], [98, 108, 119, 115], [112, 115, 116, 115], [108, 105, 103, 97]], false)]
theorem st3_ok : PureF Tryz.prog B 14 [.int .i64 3] (stsD st3) := tells_pure (k := 100) (by kernel_rfl)
theorem rst3_ok : PureF Tryz.prog B 15 [.int .i64 3] (stsD st3) := tells_pure (k := 200) (by kernel_rfl)
def st4 : List (List (List UInt8) × Bool) := [([[108, 111, 99, 108], [99, 99, 109, 112]], false), ([[114, 112, 104, 102]], false), ([[112, 114, 101, 102]], false), ([[98, 108, 119, 102]], false), ([[112, 115, 116, 102]], true), ([[112, 114, 101, 115], [97, 98, 118, 115], [98, 108, 119, 115], [112, 115, 116, 115], [108, 105, 103, 97]], false)]
theorem st4_ok : PureF Tryz.prog B 14 [.int .i64 4] (stsD st4) := tells_pure (k := 100) (by kernel_rfl)
theorem rst4_ok : PureF Tryz.prog B 15 [.int .i64 4] (stsD st4) := tells_pure (k := 200) (by kernel_rfl)
def st5 : List (List (List UInt8) × Bool) := [([[99, 99, 109, 112], [108, 111, 99, 108]], false), ([[105, 115, 111, 108]], false), ([[102, 105, 110, 97]], false), ([[109, 101, 100, 105]], false), ([[105, 110, 105, 116]], false), ([[114, 108, 105, 103]], false), ([[99, 97, 108, 116], [108, 105, 103, 97]], false)]
theorem st5_ok : PureF Tryz.prog B 14 [.int .i64 5] (stsD st5) := tells_pure (k := 100) (by kernel_rfl)
theorem rst5_ok : PureF Tryz.prog B 15 [.int .i64 5] (stsD st5) := tells_pure (k := 200) (by kernel_rfl)
def st6 : List (List (List UInt8) × Bool) := [([[99, 99, 109, 112]], false), ([[108, 106, 109, 111], [118, 106, 109, 111], [116, 106, 109, 111]], false), ([[108, 105, 103, 97]], false)]
theorem st6_ok : PureF Tryz.prog B 14 [.int .i64 6] (stsD st6) := tells_pure (k := 100) (by kernel_rfl)
theorem rst6_ok : PureF Tryz.prog B 15 [.int .i64 6] (stsD st6) := tells_pure (k := 200) (by kernel_rfl)
theorem gra1_ok : PureF Tryz.prog B 16 [.int .i64 1] (.str tx1) := tells_pure (k := 100) (by kernel_rfl)
theorem rgra1_ok : PureF Tryz.prog B 17 [.int .i64 1] (.str tx1) := tells_pure (k := 100) (by kernel_rfl)
theorem gra2_ok : PureF Tryz.prog B 16 [.int .i64 2] (.str tx2) := tells_pure (k := 100) (by kernel_rfl)
theorem rgra2_ok : PureF Tryz.prog B 17 [.int .i64 2] (.str tx2) := tells_pure (k := 100) (by kernel_rfl)
theorem gra3_ok : PureF Tryz.prog B 16 [.int .i64 3] (.str tx3) := tells_pure (k := 100) (by kernel_rfl)
theorem rgra3_ok : PureF Tryz.prog B 17 [.int .i64 3] (.str tx3) := tells_pure (k := 100) (by kernel_rfl)
theorem gra4_ok : PureF Tryz.prog B 16 [.int .i64 4] (.str tx4) := tells_pure (k := 100) (by kernel_rfl)
theorem rgra4_ok : PureF Tryz.prog B 17 [.int .i64 4] (.str tx4) := tells_pure (k := 100) (by kernel_rfl)
def bitsL : List (List UInt8 × Int) := [([114, 112, 104, 102], 2), ([104, 97, 108, 102], 4), ([112, 114, 101, 102], 8), ([98, 108, 119, 102], 8), ([97, 98, 118, 102], 8), ([112, 115, 116, 102], 8), ([105, 115, 111, 108], 16), ([102, 105, 110, 97], 32), ([109, 101, 100, 105], 64), ([105, 110, 105, 116], 128), ([108, 106, 109, 111], 256), ([118, 106, 109, 111], 512), ([116, 106, 109, 111], 1024), ([42], 1)]
theorem bit_run : (bitsL.all fun p => tells (runF Tryz.prog B 100 18 [.str p.1] []) (.int .i64 p.2)) = true := by kernel_rfl
theorem rbit_run : (bitsL.all fun p => tells (runF Tryz.prog B 200 19 [.str p.1] []) (.int .i64 p.2)) = true := by kernel_rfl
theorem pl_ok : PureF Tryz.prog B 20 [] (ssD [[107, 101, 114, 110], [109, 97, 114, 107], [109, 107, 109, 107], [99, 117, 114, 115]]) := tells_pure (k := 100) (by kernel_rfl)
end Go.Proofs.W
end
/- What is shown of a function under one annotation, told at once under another. -/
section
set_option linter.unusedVariables false
namespace Vm
open Go
end Vm
end
/- The chapter on models: what is told at once in the laws; laws that are closed runs. -/
section
set_option maxHeartbeats 4000000
set_option linter.unusedVariables false
set_option linter.unusedSimpArgs false
namespace Go.Proofs.W
open Go Vm Go.Proofs.Zs25

def hdD : D → D
  | .tup (d :: _) => d
  | d => d
def ofT : List (List D × D) := rowsL.map (fun r => ([.str r.2.1], mdD r)) ++ rowsL.map (fun r => ([.str (r.2.1 ++ [120])], mdD (0, r.2.1 ++ [120], false, 0)))
def stT : List (List D × D) := [([.int .i64 1], stsD st1), ([.int .i64 2], stsD st2), ([.int .i64 3], stsD st3), ([.int .i64 4], stsD st4), ([.int .i64 5], stsD st5), ([.int .i64 6], stsD st6)]
def rrT : List (List D × D) := [([hdD ru1], .bool true), ([hdD ru2], .bool true), ([hdD ru3], .bool true), ([hdD ru4], .bool true)]
def C : Ann := { mode := B.mode, prim := fun f => if f = 8 then some (tabP [([], .bool true)]) else if f = 13 then some (tabP [([], ssD tagsL)]) else if f = 10 then some (tabP ofT) else if f = 14 then some (tabP stT) else if f = 53 then some (tabP rrT) else B.prim f, fz := B.fz, bl := B.bl, rd := B.rd }
theorem rr1 : PureF Tryz.prog B 53 [hdD ru1] (.bool true) := tells_pure (k := 300) (by kernel_rfl)
theorem rr2 : PureF Tryz.prog B 53 [hdD ru2] (.bool true) := tells_pure (k := 300) (by kernel_rfl)
theorem rr3 : PureF Tryz.prog B 53 [hdD ru3] (.bool true) := tells_pure (k := 300) (by kernel_rfl)
theorem rr4 : PureF Tryz.prog B 53 [hdD ru4] (.bool true) := tells_pure (k := 300) (by kernel_rfl)
def allK (f : Nat → Bool) (n : Nat) : Bool := (List.range n).all f
theorem split4 {p : Nat → Bool} (h0 : allK p 64 = true) (h1 : allK (fun k => p (64 + k)) 64 = true) (h2 : allK (fun k => p (128 + k)) 64 = true) (h3 : allK (fun k => p (192 + k)) 64 = true) (k : Nat) (hk : k < 256) : p k = true := by
  simp only [allK, List.all_eq_true, List.mem_range] at h0 h1 h2 h3
  by_cases a : k < 64
  · exact h0 k a
  by_cases b : k < 128
  · have := h1 (k - 64) (by omega); rwa [show 64 + (k - 64) = k by omega] at this
  by_cases c : k < 192
  · have := h2 (k - 128) (by omega); rwa [show 128 + (k - 128) = k by omega] at this
  · have := h3 (k - 192) (by omega); rwa [show 192 + (k - 192) = k by omega] at this
theorem okTrue_runD {f : FuncId} {k : Nat} {args : List D} (h : okTrue (runF Tryz.prog C k f args []) = true) : ∃ k H', runF Tryz.prog C k f args [] = some (.ok (.bool true) H') := by
  cases hr : runF Tryz.prog C k f args [] with
  | none => rw [hr] at h; cases h
  | some r =>
    rw [hr] at h
    cases r with
    | pan d H => cases h
    | ok d H =>
      cases d <;> simp only [okTrue] at h <;> try (cases h; done)
      subst h; exact ⟨k, H, hr⟩
end Go.Proofs.W
end
/- The chapter on models: what is told at once in the laws holds of the calls. -/
section
set_option maxHeartbeats 4000000
set_option linter.unusedVariables false
set_option linter.unusedSimpArgs false
namespace Go.Proofs.W
open Go Vm Go.Proofs.Zs25

theorem alive_B : PureF Tryz.prog B 8 [] (.bool true) := by
  have h := alive_run
  cases hr : runF Tryz.prog B 300 8 [] [] with
  | none => rw [hr] at h; cases h
  | some r =>
    rw [hr] at h
    refine ⟨300, r, hr, ?_⟩
    cases r with
    | pan d H => cases h
    | ok d H =>
      cases d <;> simp only [okTrue] at h <;> try (cases h; done)
      subst h; rfl
theorem ofT_ok : ∀ x ∈ ofT, PureF Tryz.prog B 10 x.1 x.2 := fun x hx => by
  rcases List.mem_append.1 hx with h | h <;> obtain ⟨r, hr, rfl⟩ := List.mem_map.1 h
  · exact tells_pure (List.all_eq_true.1 of_run r hr)
  · exact tells_pure (List.all_eq_true.1 ofx_run r hr)
theorem stT_ok : ∀ x ∈ stT, PureF Tryz.prog B 14 x.1 x.2 := fun x hx => by
  simp only [stT, List.mem_cons, List.not_mem_nil, or_false] at hx
  rcases hx with rfl | rfl | rfl | rfl | rfl | rfl
  · exact st1_ok
  · exact st2_ok
  · exact st3_ok
  · exact st4_ok
  · exact st5_ok
  · exact st6_ok
theorem rrT_ok : ∀ x ∈ rrT, PureF Tryz.prog B 53 x.1 x.2 := fun x hx => by
  simp only [rrT, List.mem_cons, List.not_mem_nil, or_false] at hx
  rcases hx with rfl | rfl | rfl | rfl
  · exact rr1
  · exact rr2
  · exact rr3
  · exact rr4
theorem primC [Base] (hB : ∃ m, Base.B 0 0 = some (.int .i64 m)) : PrimOk Tryz.prog C := by
  have h0 := primB hB
  refine ⟨h0.ext, h0.rd, fun f p h args H r hr ρ im w vs hR hvs => ?_⟩
  simp only [C] at h
  split at h
  · rename_i e; subst e; cases h
    exact tab_calls mixed h0 bo8 rfl rfl (fun x hx => by rw [List.mem_singleton.1 hx]; exact alive_B) hr hR hvs
  split at h
  · rename_i e; subst e; cases h
    exact tab_calls mixed h0 bo13 rfl rfl (fun x hx => by rw [List.mem_singleton.1 hx]; exact tags_ok) hr hR hvs
  split at h
  · rename_i e; subst e; cases h
    exact tab_calls mixed h0 bo10 rfl rfl ofT_ok hr hR hvs
  split at h
  · rename_i e; subst e; cases h
    exact tab_calls mixed h0 bo14 rfl rfl stT_ok hr hR hvs
  split at h
  · rename_i e; subst e; cases h
    exact tab_calls mixed h0 bo53 rfl rfl rrT_ok hr hR hvs
  · exact h0.ok f p h args H r hr ρ im w vs hR hvs
end Go.Proofs.W
end
/- The law ModelRight: closed runs. -/
section
set_option maxHeartbeats 4000000
set_option linter.unusedVariables false
set_option linter.unusedSimpArgs false
namespace Go.Proofs.W
open Go Vm Go.Proofs.Zs25
theorem rightR0 : allK (fun k => okTrue (runF Tryz.prog C 60 6 [.int .u8 k] [])) 64 = true := by kernel_rfl
theorem rightR1 : allK (fun k => okTrue (runF Tryz.prog C 60 6 [.int .u8 (64 + k : Nat)] [])) 64 = true := by kernel_rfl
theorem rightR2 : allK (fun k => okTrue (runF Tryz.prog C 60 6 [.int .u8 (128 + k : Nat)] [])) 64 = true := by kernel_rfl
theorem rightR3 : allK (fun k => okTrue (runF Tryz.prog C 60 6 [.int .u8 (192 + k : Nat)] [])) 64 = true := by kernel_rfl
theorem right_law (k : Int) (h0 : 0 ≤ k) (h1 : k < 256) : ∃ n H', runF Tryz.prog C n 6 [.int .u8 k] [] = some (.ok (.bool true) H') := by
  obtain ⟨k, rfl⟩ := Int.eq_ofNat_of_zero_le h0
  exact okTrue_runD (split4 (p := fun k => okTrue (runF Tryz.prog C 60 6 [.int .u8 k] [])) rightR0 rightR1 rightR2 rightR3 k (by omega))
end Go.Proofs.W
end
/- From a law's runs to the row that lists variables. -/
section
set_option linter.unusedVariables false
namespace Vm
open Go
section
variable {P : Program}
theorem typed_str {t : TypeId} {ds : List D} (hu : P.underlying t = some .string) (h : Typed P t ds) : ∃ s, ds = [.str s] ∧ s.length ≤ maxLen := by
  cases h with
  | bool _ b h => rw [hu] at h; cases h
  | int _ k1 n h hn => rw [hu] at h; cases h
  | str _ s h hs => exact ⟨s, rfl, hs⟩
  | slice _ e xs h hl hx => rw [hu] at h; cases h
  | struct _ fs ds h hf => rw [hu] at h; cases h
  | array _ e n ds h hf => rw [hu] at h; cases h
theorem typedA_str {t : TypeId} {ts : List TypeId} {ds : List D} (hu : P.underlying t = some .string) (ha : aggT P t = false) (h : TypedA P (t :: ts) ds) : ∃ s r, ds = .str s :: r ∧ s.length ≤ maxLen ∧ TypedA P ts r := by
  obtain ⟨d, r, rfl, h1, h2⟩ := typedA_one ha h
  obtain ⟨s, hs, hl⟩ := typed_str hu h1
  cases hs
  exact ⟨s, r, rfl, hl, h2⟩
theorem typedA_int {t : TypeId} {k : IntKind} {ts : List TypeId} {ds : List D} (hu : P.underlying t = some (.int k)) (ha : aggT P t = false) (h : TypedA P (t :: ts) ds) : ∃ n r, ds = .int k n :: r ∧ (Lit.int k n).wf = true ∧ TypedA P ts r := by
  obtain ⟨d, r, rfl, h1, h2⟩ := typedA_one ha h
  obtain ⟨s, hs, hl⟩ := typed_int hu h1
  cases hs
  exact ⟨s, r, rfl, hl, h2⟩
end

/-- the row's contract, where it lists variables and a function reads one of the library's own -/
theorem law_lifted {C : Checked} {os : Os} {f : FuncId} {fn : Func} {s : ChangeSpec} {H : Type} {enc : TypeId × Value → H} {conds : List PathCond} {laid : List (String × DataW Unit)} {A : Ann} {S : List TypeId} {tb : TypeId}
    (started : os.Started) (own : ownKnob C.prog.godebug = none) (noInit : C.prog.inits.idxOf? f = none) (hfn : C.prog.funcs[f]? = some fn)
    (witness : ∃ (w : World) (tape : Tape) (i : Input), w.os = os ∧ (w.forCall tape i).Shaped C.prog ∧ i.vars = [] ∧ Input.okWide C.prog (w.forCall tape i) .any w.heap.size f i ∧
      ((s.pre enc C.prog fn conds false (w.forCall tape i).memory i.args ∧ laidMetH C.prog laid (w.forCall tape i).memory) ∧ sizedMet enc C.prog fn (OpenSpec.ofChange s) false (w.forCall tape i).memory i.args) ∧ ({} : Assume).holds C.prog (lone (Frame.enter C.prog f i.args .normal) [] (w.forCall tape i)))
    (hvars : s.vars = []) (hl : laidOutB C.prog = true)
    (hts : (fn.params.toList.all fun t => C.prog.readableRec t && decide (t < C.prog.types.size)) = true) (hS : plainS C.prog S = true) (hpl : (fn.params.toList.all fun t => S.contains t) = true)
    (hbod : bodied C.prog f = true) (hres : fn.resultTypes = #[tb]) (htb : C.prog.underlying tb = some .bool)
    (hs : ∀ ds : List (DataW H), ds.length = fn.params.size → (s.fn H ds).results = [.lit (.bool true)] ∧ (s.fn H ds).args = ds ∧ (s.fn H ds).vars = [])
    (hprim : ∀ W : World, W.ShapedOpen C.prog → @PrimOk ⟨im0 W⟩ C.prog A)
    (hrun : ∀ Ds, TypedA C.prog fn.params.toList Ds → ∃ k H', runF C.prog A k f Ds [] = some (.ok (.bool true) H')) :
    ReturnsInHanded {} C os f .any (fun w args => (s.pre enc C.prog fn conds false w args ∧ laidMetH C.prog laid w) ∧ sizedMet enc C.prog fn (OpenSpec.ofChange s) false w args) (s.post enc C.prog fn false true false false) := by
  refine returnsInHanded_of_calls own started noInit witness ?_
  intro w tape i _ hsh _ hok hpre hholds
  obtain ⟨_, _, _, fn', hfn', _, _, _, _, hval⟩ := hok
  have e : fn' = fn := Option.some.inj (hfn'.symm.trans hfn)
  subst e
  obtain ⟨⟨⟨ds, gs, before, hw, hc⟩, hx⟩, hz⟩ := hpre
  have hw' := DataW.Whole.of_heap (w' := w.forCall tape i) (by rfl) hw
  have hts' : ∀ t ∈ fn'.params.toList, C.prog.readableRec t = true ∧ t < C.prog.types.size := fun t ht => by
    have h2 : C.prog.readableRec t = true ∧ decide (t < C.prog.types.size) = true := by simpa only [Bool.and_eq_true] using List.all_eq_true.1 hts t ht
    exact ⟨h2.1, of_decide_eq_true h2.2⟩
  refine (law_contract hvars hl hts' hS hpl hbod hres htb hs hrun (w.forCall tape i) w.heap.size i.args ds gs before hval hw' (hprim _ hsh)).mono fun e W' ⟨v, he, hp⟩ => ?_
  subst he
  exact ChangeSpec.post_blind hp
end Vm
end
/- Typed data. -/
section
set_option maxHeartbeats 4000000
set_option linter.unusedVariables false
set_option linter.unusedSimpArgs false
-- use:
namespace Go.Proofs.W
end Go.Proofs.W
end
/- The law ModelRows. -/
section
set_option maxHeartbeats 4000000
set_option linter.unusedVariables false
set_option linter.unusedSimpArgs false
namespace Go.Proofs.W
open Go Vm Go.Proofs.Zs25

abbrev YesB (f : FuncId) (args : List D) : Prop := EvF Tryz.prog B f args [] (fun d _ => d = .bool true) (fun _ _ => False)
theorem run_of_yesB {f : FuncId} {args : List D} (h : YesB f args) : ∃ k H', runF Tryz.prog B k f args [] = some (.ok (.bool true) H') := by
  obtain ⟨k, r, h1, h2⟩ := h
  cases r with
  | pan d H => exact h2.elim
  | ok d H => exact ⟨k, H, by rw [h1, show d = .bool true from h2]⟩
theorem eqMd (xs ys : List D) : eqD Tryz.prog 26 (.agg xs) (.agg ys) = eqK [0, 2, 1, 0] xs ys := by kernel_rfl
attribute [go_sem] eqMd eqK eqK1
theorem strip_strs (l : List (List UInt8)) : stripL (l.map .str) = some (l.map .str) := by
  induction l with
  | nil => rfl
  | cons q r ih => simp [stripL, ih, strip]
theorem strip_ss (l : List (List UInt8)) : strip (ssD l) = some (ssD l) := by simp [ssD, strip, strip_strs]
theorem str_get {l : List (List UInt8)} {j : Nat} (h : j < l.length) : (l.map D.str)[j]? = some (.str l[j]) := by simp [h]
theorem of_no (t : List UInt8) (h : ∀ r ∈ rowsL, (r.2.1 == t) = false) : PureF Tryz.prog B 10 [.str t] (mdD (0, t, false, 0)) := by
  have hr := rows_ok
  have hl : rowsL.length ≤ 100 := by decide
  generalize rowsL = L at h hr hl
  refine evF_inB (n := 19) (rs := [.cell 2 26]) Tryz.func10 rfl rfl rfl rfl rfl rfl ?_
  repeat' (first | refine wz1 ?_ | refine wz2 ?_ | refine wz3 ?_ | refine wz4 ?_ | refine wz5 ?_ | refine wz6 ?_ | simp -dsimp (maxSteps:=999999) (disch:=omega) only[go_sem,simprocAttr, *] | ((first | refine wz8 (fun hh => ?_) (fun hh => ?_) | refine wz9 (fun hh => ?_) (fun hh => ?_) | refine wz7 (fun hh => ?_) (fun hh => ?_)) <;> (try replace hh := vqs hh) <;> (try (exfalso; first | exact hh | omega))))
  refine evB_plain bo30 rfl rfl rfl hr ?_
  repeat' (first | refine wz1 ?_ | refine wz2 ?_ | refine wz3 ?_ | refine wz4 ?_ | refine wz5 ?_ | refine wz6 ?_ | simp -dsimp (maxSteps:=999999) (disch:=omega) only[go_sem,simprocAttr, *] | ((first | refine wz8 (fun hh => ?_) (fun hh => ?_) | refine wz9 (fun hh => ?_) (fun hh => ?_) | refine wz7 (fun hh => ?_) (fun hh => ?_)) <;> (try replace hh := vqs hh) <;> (try (exfalso; first | exact hh | omega))))
  refine wpB_loop (fun e H => ∃ j : Nat, j ≤ L.length ∧ 1 ≤ H.length ∧ hget H 0 = .arr [.agg [.int .i64 0, .str [], .bool false, .int .i64 0]] ∧ e 0 = .str t ∧ e 2 = .ptr 0 0 0 ∧ e 5 = .sl false (L.map mdD) ∧ e 6 = .int .i64 L.length ∧ e 7 = .int .i64 j) (fun e H => L.length - natOf (e 7)) ?_ ?_
  · exact ⟨0, by omega, by simp, gs, gs, gs, gs, gs, gs⟩
  rintro e H ⟨j, hj, h1, h0, e0, e2, e5, e6, e7⟩ R hR
  by_cases hb : j < L.length
  case neg =>
    repeat' (first | refine wz1 ?_ | refine wz2 ?_ | refine wz3 ?_ | refine wz4 ?_ | refine wz5 ?_ | refine wz6 ?_ | simp -dsimp (maxSteps:=999999) (disch:=omega) only[go_sem,simprocAttr, *,mdD] | ((first | refine wz8 (fun hh => ?_) (fun hh => ?_) | refine wz9 (fun hh => ?_) (fun hh => ?_) | refine wpB_cond (by simp -dsimp (maxSteps:=999999) (disch:=omega) only[go_sem,simprocAttr, *,mdD]; exact rfl) (fun hh => ?_) (fun hh => ?_)) <;> (try replace hh := vqs hh) <;> (try (exfalso; first | exact hh | omega))))
    rfl
  have hc : (L.map mdD)[j]? = some (.agg [.int .i64 L[j].1, .str L[j].2.1, .bool L[j].2.2.1, .int .i64 L[j].2.2.2]) := by simp [hb, mdD]
  have hq := h L[j] (List.getElem_mem hb)
  generalize L[j] = r at hc hq
  obtain ⟨a, s, b, c⟩ := r
  simp only at hc hq
  repeat' (first | refine wz1 ?_ | refine wz2 ?_ | refine wz3 ?_ | refine wz4 ?_ | refine wz5 ?_ | refine wz6 ?_ | simp -dsimp (maxSteps:=999999) (disch:=omega) only[go_sem,simprocAttr, *] | ((first | refine wz8 (fun hh => ?_) (fun hh => ?_) | refine wz9 (fun hh => ?_) (fun hh => ?_) | refine wz7 (fun hh => ?_) (fun hh => ?_)) <;> (try replace hh := vqs hh) <;> (try (exfalso; first | exact hh | omega))))
  refine hR _ _ ⟨j + 1, by omega, by simp, gs, gs, gs, gs, gs, gs⟩ ?_
  simp -dsimp (maxSteps:=999999) (disch:=omega) only[go_sem,simprocAttr, *,natOf_int]
theorem rof_no (t : List UInt8) (h : ∀ s ∈ tagsL, (s == t) = false) : PureF Tryz.prog B 11 [.str t] (mdD (0, t, false, 0)) := by
  have hr := rtags_ok
  have hl : tagsL.length ≤ 100 := by decide
  generalize tagsL = L at h hr hl
  refine evF_inB (n := 59) (rs := [.cell 2 26]) Tryz.func11 rfl rfl rfl rfl rfl rfl ?_
  repeat' (first | refine wz1 ?_ | refine wz2 ?_ | refine wz3 ?_ | refine wz4 ?_ | refine wz5 ?_ | refine wz6 ?_ | simp -dsimp (maxSteps:=999999) (disch:=omega) only[go_sem,simprocAttr, *] | ((first | refine wz8 (fun hh => ?_) (fun hh => ?_) | refine wz9 (fun hh => ?_) (fun hh => ?_) | refine wz7 (fun hh => ?_) (fun hh => ?_)) <;> (try replace hh := vqs hh) <;> (try (exfalso; first | exact hh | omega))))
  refine evB_plain bo9 rfl rfl rfl hr ?_
  repeat' (first | refine wz1 ?_ | refine wz2 ?_ | refine wz3 ?_ | refine wz4 ?_ | refine wz5 ?_ | refine wz6 ?_ | simp -dsimp (maxSteps:=999999) (disch:=omega) only[go_sem,simprocAttr, *,ssD] | ((first | refine wz8 (fun hh => ?_) (fun hh => ?_) | refine wz9 (fun hh => ?_) (fun hh => ?_) | refine wpB_cond (by simp -dsimp (maxSteps:=999999) (disch:=omega) only[go_sem,simprocAttr, *,ssD]; exact rfl) (fun hh => ?_) (fun hh => ?_)) <;> (try replace hh := vqs hh) <;> (try (exfalso; first | exact hh | omega))))
  refine wpB_loop (fun e H => ∃ j : Nat, j ≤ L.length ∧ 2 ≤ H.length ∧ hget H 0 = .arr [.agg [.int .i64 0, .str [], .bool false, .int .i64 0]] ∧ hget H 1 = .arr [.agg [.int .i64 0, .str t, .bool false, .int .i64 0]] ∧ e 0 = .str t ∧ e 2 = .ptr 0 0 0 ∧ e 3 = .ptr 1 0 0 ∧ e 4 = .sl false (L.map .str) ∧ e 5 = .int .i64 (-1) ∧ e 6 = .int .i64 j) (fun e H => L.length - natOf (e 6)) ?_ ?_
  · exact ⟨0, by omega, by simp, gs, gs, gs, gs, gs, gs, gs, gs⟩
  rintro e H ⟨j, hj, h1, h0, hh1, e0, e2, e3, e4, e5, e6⟩ R hR
  by_cases hb : j < L.length
  case neg =>
    have hs : ∀ o X, hget ((H ++ [X]).set 0 o) 0 = o := fun o X => hget_set_eq (by simp)
    repeat' (first | refine wz1 ?_ | refine wz2 ?_ | refine wz3 ?_ | refine wz4 ?_ | refine wz5 ?_ | refine wz6 ?_ | simp -dsimp (maxSteps:=999999) (disch:=omega) only[go_sem,simprocAttr, *,mdD] | ((first | refine wz8 (fun hh => ?_) (fun hh => ?_) | refine wz9 (fun hh => ?_) (fun hh => ?_) | refine wpB_cond (by simp -dsimp (maxSteps:=999999) (disch:=omega) only[go_sem,simprocAttr, *,mdD]; exact rfl) (fun hh => ?_) (fun hh => ?_)) <;> (try replace hh := vqs hh) <;> (try (exfalso; first | exact hh | omega))))
    rfl
  have hc := str_get hb
  have hq := h L[j] (List.getElem_mem hb)
  generalize L[j] = r at hc hq
  repeat' (first | refine wz1 ?_ | refine wz2 ?_ | refine wz3 ?_ | refine wz4 ?_ | refine wz5 ?_ | refine wz6 ?_ | simp -dsimp (maxSteps:=999999) (disch:=omega) only[go_sem,simprocAttr, *] | ((first | refine wz8 (fun hh => ?_) (fun hh => ?_) | refine wz9 (fun hh => ?_) (fun hh => ?_) | refine wz7 (fun hh => ?_) (fun hh => ?_)) <;> (try replace hh := vqs hh) <;> (try (exfalso; first | exact hh | omega))))
  refine hR _ _ ⟨j + 1, by omega, by omega, gs, gs, gs, gs, gs, gs, gs, gs⟩ ?_
  simp -dsimp (maxSteps:=999999) (disch:=omega) only[go_sem,simprocAttr, *,natOf_int]
theorem texts_ok (a : List (List UInt8)) (ha : a.length ≤ 100000) : PureF Tryz.prog B 12 [ssD a, ssD a] (.bool true) := by
  refine evF_inB (n := 26) (rs := [.tmp 4]) Tryz.func12 rfl rfl rfl rfl rfl rfl ?_
  repeat' (first | refine wz1 ?_ | refine wz2 ?_ | refine wz3 ?_ | refine wz4 ?_ | refine wz5 ?_ | refine wz6 ?_ | simp -dsimp (maxSteps:=999999) (disch:=omega) only[go_sem,simprocAttr, *,ssD] | ((first | refine wz8 (fun hh => ?_) (fun hh => ?_) | refine wz9 (fun hh => ?_) (fun hh => ?_) | refine wpB_cond (by simp -dsimp (maxSteps:=999999) (disch:=omega) only[go_sem,simprocAttr, *,ssD]; exact rfl) (fun hh => ?_) (fun hh => ?_)) <;> (try replace hh := vqs hh) <;> (try (exfalso; first | exact hh | omega))))
  refine wpB_loop (fun e H => ∃ (j : Nat), j ≤ a.length ∧ e 0 = .sl false (a.map .str) ∧ e 1 = .sl false (a.map .str) ∧ e 5 = .int .i64 j) (fun e H => a.length - natOf (e 5)) ?_ ?_
  · exact ⟨0, by omega, gs, gs, gs⟩
  rintro e H ⟨j, hj, e0, e1, e5⟩ R hR
  by_cases hb : j < a.length
  case neg => repeat' (first | refine wz1 ?_ | refine wz2 ?_ | refine wz3 ?_ | refine wz4 ?_ | refine wz5 ?_ | refine wz6 ?_ | simp -dsimp (maxSteps:=999999) (disch:=omega) only[go_sem,simprocAttr, *] | ((first | refine wz8 (fun hh => ?_) (fun hh => ?_) | refine wz9 (fun hh => ?_) (fun hh => ?_) | refine wz7 (fun hh => ?_) (fun hh => ?_)) <;> (try replace hh := vqs hh) <;> (try (exfalso; first | exact hh | omega))))
  have hc := str_get hb
  generalize a[j] = p at hc
  have q1 : (p == p) = true := by simp
  repeat' (first | refine wz1 ?_ | refine wz2 ?_ | refine wz3 ?_ | refine wz4 ?_ | refine wz5 ?_ | refine wz6 ?_ | simp -dsimp (maxSteps:=999999) (disch:=omega) only[go_sem,simprocAttr, *] | ((first | refine wz8 (fun hh => ?_) (fun hh => ?_) | refine wz9 (fun hh => ?_) (fun hh => ?_) | refine wz7 (fun hh => ?_) (fun hh => ?_)) <;> (try replace hh := vqs hh) <;> (try (exfalso; first | exact hh | omega))))
  refine wpB_regionXL (prs := []) (by kernel_rfl) rfl (by kernel_rfl) ?_; simp -dsimp (maxSteps:=999999) (disch:=omega) only[go_sem,simprocAttr, *]
  repeat' (first | refine wz1 ?_ | refine wz2 ?_ | refine wz3 ?_ | refine wz4 ?_ | refine wz5 ?_ | refine wz6 ?_ | simp -dsimp (maxSteps:=999999) (disch:=omega) only[go_sem,simprocAttr, *] | ((first | refine wz8 (fun hh => ?_) (fun hh => ?_) | refine wz9 (fun hh => ?_) (fun hh => ?_) | refine wz7 (fun hh => ?_) (fun hh => ?_)) <;> (try replace hh := vqs hh) <;> (try (exfalso; first | exact hh | omega))))
  refine hR _ _ ⟨j + 1, by omega, gs, gs, gs⟩ ?_
  simp -dsimp (maxSteps:=999999) (disch:=omega) only[go_sem,simprocAttr, *,natOf_int]
theorem tags_rows : tagsL = rowsL.map (·.2.1) := by decide
theorem of_all (t : List UInt8) : ∃ r, PureF Tryz.prog B 10 [.str t] (mdD r) ∧ PureF Tryz.prog B 11 [.str t] (mdD r) := by
  by_cases h : ∃ r ∈ rowsL, r.2.1 = t
  · obtain ⟨r, hr, rfl⟩ := h
    exact ⟨r, tells_pure (List.all_eq_true.1 of_run r hr), tells_pure (List.all_eq_true.1 rof_run r hr)⟩
  · have hn : ∀ r ∈ rowsL, (r.2.1 == t) = false := fun r hr => by simpa using fun e => h ⟨r, hr, e⟩
    refine ⟨_, of_no t hn, rof_no t fun s hs => ?_⟩
    rw [tags_rows] at hs
    obtain ⟨r, hr, rfl⟩ := List.mem_map.1 hs
    exact hn r hr
theorem rows_law (t : List UInt8) (k : Int) (h0 : 0 ≤ k) (h1 : k < 256) : YesB 3 [.str t, .int .u8 k] := by
  have hl : tagsL.length = 22 := by decide
  have hT := tags_ok
  have hR := rtags_ok
  have hX := texts_ok tagsL (by decide)
  generalize tagsL = L at hl hT hR hX
  obtain ⟨i, hi⟩ : ∃ i : Nat, k.tmod 22 = i := ⟨(k.tmod 22).toNat, by
    have := Int.tmod_nonneg (22 : Int) h0
    omega⟩
  have hil : i < L.length := by
    have := Int.tmod_lt_of_pos k (show (0 : Int) < 22 by omega)
    omega
  have hc := str_get hil
  generalize L[i] = x at hc
  obtain ⟨r, r1, r2⟩ := of_all t
  obtain ⟨q, q1, q2⟩ := of_all x
  have sL := strip_ss L
  obtain ⟨ra, rb, rc, rd⟩ := r
  obtain ⟨qa, qb, qc, qd⟩ := q
  refine evF_inB (n := 35) (rs := [.tmp 4]) Tryz.func3 rfl rfl rfl rfl rfl rfl ?_
  repeat' (first | refine wz1 ?_ | refine wz2 ?_ | refine wz3 ?_ | refine wz4 ?_ | refine wz5 ?_ | refine wz6 ?_ | simp -dsimp (maxSteps:=999999) (disch:=omega) only[go_sem,simprocAttr, *] | ((first | refine wz8 (fun hh => ?_) (fun hh => ?_) | refine wz9 (fun hh => ?_) (fun hh => ?_) | refine wz7 (fun hh => ?_) (fun hh => ?_)) <;> (try replace hh := vqs hh) <;> (try (exfalso; first | exact hh | omega))))
  refine evB_plain bo8 rfl rfl rfl alive_B ?_
  repeat' (first | refine wz1 ?_ | refine wz2 ?_ | refine wz3 ?_ | refine wz4 ?_ | refine wz5 ?_ | refine wz6 ?_ | simp -dsimp (maxSteps:=999999) (disch:=omega) only[go_sem,simprocAttr, *] | ((first | refine wz8 (fun hh => ?_) (fun hh => ?_) | refine wz9 (fun hh => ?_) (fun hh => ?_) | refine wz7 (fun hh => ?_) (fun hh => ?_)) <;> (try replace hh := vqs hh) <;> (try (exfalso; first | exact hh | omega))))
  refine evB_plain bo9 rfl rfl rfl hR ?_
  repeat' (first | refine wz1 ?_ | refine wz2 ?_ | refine wz3 ?_ | refine wz4 ?_ | refine wz5 ?_ | refine wz6 ?_ | simp -dsimp (maxSteps:=999999) (disch:=omega) only[go_sem,simprocAttr, *,ssD] | ((first | refine wz8 (fun hh => ?_) (fun hh => ?_) | refine wz9 (fun hh => ?_) (fun hh => ?_) | refine wpB_cond (by simp -dsimp (maxSteps:=999999) (disch:=omega) only[go_sem,simprocAttr, *,ssD]; exact rfl) (fun hh => ?_) (fun hh => ?_)) <;> (try replace hh := vqs hh) <;> (try (exfalso; first | exact hh | omega))))
  refine evB_plain bo10 rfl rfl rfl r1 ?_
  repeat' (first | refine wz1 ?_ | refine wz2 ?_ | refine wz3 ?_ | refine wz4 ?_ | refine wz5 ?_ | refine wz6 ?_ | simp -dsimp (maxSteps:=999999) (disch:=omega) only[go_sem,simprocAttr, *] | ((first | refine wz8 (fun hh => ?_) (fun hh => ?_) | refine wz9 (fun hh => ?_) (fun hh => ?_) | refine wz7 (fun hh => ?_) (fun hh => ?_)) <;> (try replace hh := vqs hh) <;> (try (exfalso; first | exact hh | omega))))
  refine evB_plain bo11 rfl rfl rfl r2 ?_
  repeat' (first | refine wz1 ?_ | refine wz2 ?_ | refine wz3 ?_ | refine wz4 ?_ | refine wz5 ?_ | refine wz6 ?_ | simp -dsimp (maxSteps:=999999) (disch:=omega) only[go_sem,simprocAttr, *,mdD] | ((first | refine wz8 (fun hh => ?_) (fun hh => ?_) | refine wz9 (fun hh => ?_) (fun hh => ?_) | refine wpB_cond (by simp -dsimp (maxSteps:=999999) (disch:=omega) only[go_sem,simprocAttr, *,mdD]; exact rfl) (fun hh => ?_) (fun hh => ?_)) <;> (try replace hh := vqs hh) <;> (try (exfalso; first | exact hh | omega))))
  refine evB_plain bo10 rfl rfl rfl q1 ?_
  repeat' (first | refine wz1 ?_ | refine wz2 ?_ | refine wz3 ?_ | refine wz4 ?_ | refine wz5 ?_ | refine wz6 ?_ | simp -dsimp (maxSteps:=999999) (disch:=omega) only[go_sem,simprocAttr, *] | ((first | refine wz8 (fun hh => ?_) (fun hh => ?_) | refine wz9 (fun hh => ?_) (fun hh => ?_) | refine wz7 (fun hh => ?_) (fun hh => ?_)) <;> (try replace hh := vqs hh) <;> (try (exfalso; first | exact hh | omega))))
  refine evB_plain bo11 rfl rfl rfl q2 ?_
  repeat' (first | refine wz1 ?_ | refine wz2 ?_ | refine wz3 ?_ | refine wz4 ?_ | refine wz5 ?_ | refine wz6 ?_ | simp -dsimp (maxSteps:=999999) (disch:=omega) only[go_sem,simprocAttr, *,mdD] | ((first | refine wz8 (fun hh => ?_) (fun hh => ?_) | refine wz9 (fun hh => ?_) (fun hh => ?_) | refine wpB_cond (by simp -dsimp (maxSteps:=999999) (disch:=omega) only[go_sem,simprocAttr, *,mdD]; exact rfl) (fun hh => ?_) (fun hh => ?_)) <;> (try replace hh := vqs hh) <;> (try (exfalso; first | exact hh | omega))))
  refine evB_plain bo13 rfl rfl rfl hT ?_
  repeat' (first | refine wz1 ?_ | refine wz2 ?_ | refine wz3 ?_ | refine wz4 ?_ | refine wz5 ?_ | refine wz6 ?_ | simp -dsimp (maxSteps:=999999) (disch:=omega) only[go_sem,simprocAttr, *,ssD] | ((first | refine wz8 (fun hh => ?_) (fun hh => ?_) | refine wz9 (fun hh => ?_) (fun hh => ?_) | refine wpB_cond (by simp -dsimp (maxSteps:=999999) (disch:=omega) only[go_sem,simprocAttr, *,ssD]; exact rfl) (fun hh => ?_) (fun hh => ?_)) <;> (try replace hh := vqs hh) <;> (try (exfalso; first | exact hh | omega))))
  refine evB_plain bo12 rfl rfl (strip2 sL sL) hX ?_
  repeat' (first | refine wz1 ?_ | refine wz2 ?_ | refine wz3 ?_ | refine wz4 ?_ | refine wz5 ?_ | refine wz6 ?_ | simp -dsimp (maxSteps:=999999) (disch:=omega) only[go_sem,simprocAttr, *] | ((first | refine wz8 (fun hh => ?_) (fun hh => ?_) | refine wz9 (fun hh => ?_) (fun hh => ?_) | refine wz7 (fun hh => ?_) (fun hh => ?_)) <;> (try replace hh := vqs hh) <;> (try (exfalso; first | exact hh | omega))))
end Go.Proofs.W
end
