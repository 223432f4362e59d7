/- Texts that stand behind this claim, one after the other. -/
import Derived.Test.YthfbnjkijkbpcaaDoorM6
import Derived.Test.YthfbnjkijkbpcaaDoorM8
import Derived.Test.YthfbnjkijkbpcaaDoorM7
import Derived.HandedShaped
import Derived.LaidLaws
/- The machine of expressions matches a word by the least rule that has it. -/
section
set_option maxHeartbeats 4000000
set_option linter.unusedVariables false
set_option linter.unusedSimpArgs false
namespace Go.Proofs.W
open Go Vm Go.Proofs.Zs07

theorem clos_sub {n : Nfa} {l : List Int} {s t : Nat} (hs : (s : Int) ∈ clos n l) (ht : (t : Int) ∈ n.free.getD s []) (hk : t < n.set.length) : (t : Int) ∈ clos n l := by
  obtain ⟨i, h1, h2, h3⟩ := mem_listZ.1 hs
  obtain rfl : s = i := by omega
  exact mem_listZ.2 ⟨t, hk, clo_iff.2 (.step (clo_iff.1 h2) ht), rfl⟩
theorem at_path {n : Nfa} (hok : OkM n) (h1 : 1 ≤ kN n) (w : List Int) : ∀ x y, Path n w x y → x = (0, 0) → y.1 < kN n ∧ y.2 ≤ w.length ∧ ((y.1 : Nat) : Int) ∈ atN n (w.take y.2) := by
  intro x y h
  induction h with
  | refl =>
    rintro rfl
    refine ⟨h1, Nat.zero_le _, ?_⟩
    exact mem_listZ.2 ⟨0, h1, clo_iff.2 (.base ⟨h1, by simp⟩), rfl⟩
  | step _ g ih =>
    intro e
    obtain ⟨i1, i2, i3⟩ := ih e
    cases g with
    | @eps s t p ht =>
      have := hok.fr s t ht
      have htk : t < kN n := by omega
      obtain ⟨l, hl⟩ := atN_clos n (w.take p)
      simp only at i1 i2 i3 ⊢
      rw [hl] at i3 ⊢
      exact ⟨htk, i2, clos_sub i3 ht htk⟩
    | @sym s t p c hc hh hto =>
      simp only at i1 i2 i3 ⊢
      have hp : p < w.length := by
        rcases Nat.lt_or_ge p w.length with h | h
        · exact h
        · rw [List.getElem?_eq_none h] at hc; cases hc
      have hset : n.set.getD s 0 ≠ 0 := fun e => by rw [hit_zero e] at hh; cases hh
      have hst := hok.st s hset
      have htk : t < kN n := by omega
      refine ⟨htk, by omega, ?_⟩
      rw [atN_take hp]
      have hcw : w[p] = c := by rw [List.getElem?_eq_getElem hp] at hc; exact Option.some.inj hc
      rw [hcw]
      refine mem_listZ.2 ⟨t, htk, clo_iff.2 (.base ⟨htk, mem_listZ.2 ⟨t, htk, ?_, rfl⟩⟩), rfl⟩
      simp only [stepTo, List.any_eq_true, List.mem_range, Bool.and_eq_true, decide_eq_true_eq]
      exact ⟨s, i1, ⟨i3, hh⟩, hto⟩
theorem path_at {n : Nfa} (w : List Int) : ∀ (j s : Nat), j ≤ w.length → (s : Int) ∈ atN n (w.take j) → Path n w (0, 0) (s, j)
  | 0, s, _, h => by
    obtain ⟨i, h1, h2, h3⟩ := mem_listZ.1 h
    obtain rfl : s = i := by omega
    have hr := clo_iff.1 h2
    clear h h1 h2 h3
    induction hr with
    | @base s' hb =>
      have e : s' = 0 := by simpa [inS] using hb.2
      subst e; exact .refl
    | step _ ht ih => exact .step ih (.eps ht)
  | j + 1, s, hj, h => by
    have hjw : j < w.length := by omega
    rw [atN_take hjw] at h
    obtain ⟨i, h1, h2, h3⟩ := mem_listZ.1 h
    obtain rfl : s = i := by omega
    have hr := clo_iff.1 h2
    clear h h1 h2 h3
    induction hr with
    | base hb =>
      obtain ⟨t, g1, g2, g3⟩ := mem_listZ.1 hb.2
      simp only [stepTo, List.any_eq_true, List.mem_range, Bool.and_eq_true, decide_eq_true_eq] at g2
      obtain ⟨x, k1, ⟨k2, k3⟩, k4⟩ := g2
      rw [← g3] at k4
      exact .step (path_at w j x (by omega) k2) (.sym (List.getElem?_eq_getElem hjw) k3 k4)
    | step _ ht ih => exact .step ih (.eps ht)
theorem goodR_step {n : Nfa} {w : List Int} : ∀ (l : List Rx) (a : Nat) (fl : List Bool) (x p : Nat) (y : Nat × Nat), FragR n l a → shapesL l = true → fl.length = w.length + 1 → GoodL w 3 l a fl x p → Go1 n w (x, p) y → GoodL w 3 l a fl y.1 y.2
  | [], a, fl, x, p, y, _, _, _, hg, _ => by simp [GoodL] at hg
  | r :: l, a, fl, x, p, y, hf, hs, hfl, hg, g => by
    obtain ⟨h1, h2, h3⟩ := hf
    simp only [shapesL, Bool.and_eq_true] at hs
    simp only [GoodL, if_neg (show ¬ (3 : Int) = 2 by omega)] at hg ⊢
    rcases hg with hg | hg
    · by_cases hx : x = endOf r a
      · subst hx
        obtain ⟨t, ht, rfl⟩ := go_cases h2 g
        cases ht
      · exact .inl (good_step n w r a fl x p y h1 hs.1 hfl hg hx g)
    · exact .inr (goodR_step l _ fl x p y h3 hs.2 hfl hg g)
theorem goodR_end {w : List Int} : ∀ (l : List Rx) (a : Nat) (fl : List Bool) (s p i : Nat), (endsP l a)[i]? = some s → GoodL w 3 l a fl s p → ∃ r, l[i]? = some r ∧ at' (endsR w r fl) p
  | [], a, fl, s, p, i, h, _ => by simp [endsP] at h
  | r :: l, a, fl, s, p, i, h, hg => by
    have hp := sizeR_pos r
    simp only [GoodL, if_neg (show ¬ (3 : Int) = 2 by omega)] at hg
    simp only [endsP] at h
    cases i with
    | zero =>
      have hs : endOf r a = s := by simpa using h
      rcases hg with hg | hg
      · rw [← hs] at hg
        exact ⟨r, rfl, good_end w r a hg⟩
      · have := goodL_rng w 3 l _ fl s p hg
        simp only [endOf] at hs; omega
    | succ i =>
      have h' : (endsP l (a + 2 * sizeR r))[i]? = some s := by simpa using h
      rcases hg with hg | hg
      · have h3 := endsP_rng l _ s (List.mem_of_getElem? h')
        have h4 := good_rng w r a fl s p hg
        simp only [endOf] at h4; omega
      · obtain ⟨r', k1, k2⟩ := goodR_end l _ fl s p i h' hg
        exact ⟨r', by simpa using k1, k2⟩
theorem frag_at {n : Nfa} : ∀ (l : List Rx) (a : Nat) (i : Nat) (r : Rx), FragR n l a → l[i]? = some r → ∃ x, x ∈ starts l a ∧ Frag n r x ∧ (endsP l a)[i]? = some (endOf r x)
  | [], a, i, r, _, h => by simp at h
  | z :: l, a, i, r, hf, h => by
    obtain ⟨h1, h2, h3⟩ := hf
    cases i with
    | zero =>
      have : z = r := by simpa using h
      subst this
      exact ⟨a, by simp [starts], h1, by simp [endsP]⟩
    | succ i =>
      obtain ⟨x, g1, g2, g3⟩ := frag_at l _ i r h3 (by simpa using h)
      exact ⟨x, by simp [starts, g1], g2, by simpa [endsP] using g3⟩
theorem has_at {w : List Int} {r : Rx} : hasR w r = true ↔ at' (endsR w r (startB w.length)) w.length := Iff.rfl
theorem start_at {m p : Nat} : at' (startB m) p ↔ p = 0 := by
  unfold at' startB
  cases p with
  | zero => simp
  | succ p =>
    simp only [List.getD_eq_getElem?_getD, List.getElem?_cons_succ, List.getElem?_replicate]
    split <;> simp
/-- a word leads to an expression's end just if the expression has it -/
theorem leads {n : Nfa} {l : List Rx} (h : Pre n l) (hr : ∀ r ∈ l, rightR r = true) (w : List Int) {i s : Nat} {r : Rx} (hi : l[i]? = some r) (hs : (endsP l 1)[i]? = some s) : (s : Int) ∈ atN n w ↔ hasR w r = true := by
  have hsl : shapesL l = true := by rw [shapesL_eq, List.all_eq_true]; exact fun x hx => (sizes hr x hx).2
  have hw : w.take w.length = w := List.take_length
  constructor
  · intro hm
    rw [← hw] at hm
    have hp := path_at (n := n) w w.length s (Nat.le_refl _) hm
    have key : ∀ x y, Path n w x y → x = (0, 0) → y = (0, 0) ∨ GoodL w 3 l 1 (startB w.length) y.1 y.2 := by
      intro x y hp
      induction hp with
      | refl => exact fun e => .inl e
      | step _ g ih =>
        intro e
        rcases ih e with rfl | hg
        · obtain ⟨t, ht, rfl⟩ := go_cases h.s0 g
          exact .inr (good_starts w 3 (by omega) l 1 ht (start_at.2 rfl))
        · exact .inr (goodR_step l 1 _ _ _ _ h.fr hsl (start_len _) hg g)
    rcases key _ _ hp rfl with e | hg
    · have := endsP_rng l 1 s (List.mem_of_getElem? hs)
      have : s = 0 := congrArg Prod.fst e
      omega
    · obtain ⟨r', k1, k2⟩ := goodR_end l 1 _ s w.length i hs hg
      rw [hi] at k1; cases k1
      exact has_at.2 k2
  · intro hh
    obtain ⟨x, g1, g2, g3⟩ := frag_at l 1 i r h.fr hi
    rw [hs] at g3
    cases g3
    obtain ⟨i0, k1, k2⟩ := sound n w r x _ _ g2 (sizes hr r (List.mem_of_getElem? hi)).2 (start_len _) (has_at.1 hh)
    rw [start_at] at k1
    subst k1
    have hp : Path n w (0, 0) (endOf r x, w.length) := (Path.one (go_free h.s0 g1)).trans k2
    have := at_path h.ok (by rw [h.k]; omega) w _ _ hp rfl
    have h3 := this.2.2
    simp only [hw] at h3
    exact h3
def firstZ (w : List Int) : List Rx → Nat → Int
  | [], _ => -1
  | r :: l, i => if hasR w r then (i : Int) else firstZ w l (i + 1)
theorem firstZ_spec (w : List Int) : ∀ (l : List Rx) (i0 : Nat), (firstZ w l i0 = -1 ∧ ∀ r ∈ l, hasR w r = false) ∨ ∃ i r, l[i]? = some r ∧ hasR w r = true ∧ firstZ w l i0 = ((i0 + i : Nat) : Int) ∧ ∀ i' r', i' < i → l[i']? = some r' → hasR w r' = false
  | [], i0 => .inl ⟨rfl, by simp⟩
  | r :: l, i0 => by
    simp only [firstZ]
    cases hh : hasR w r with
    | true => exact .inr ⟨0, r, rfl, hh, by simp, fun i' r' h => by omega⟩
    | false =>
      simp only [Bool.false_eq_true, if_false]
      rcases firstZ_spec w l (i0 + 1) with ⟨h1, h2⟩ | ⟨i, r', h1, h2, h3, h4⟩
      · refine .inl ⟨h1, fun x hx => ?_⟩
        rcases List.mem_cons.1 hx with rfl | hx
        · exact hh
        · exact h2 x hx
      · refine .inr ⟨i + 1, r', by simpa using h1, h2, by rw [h3]; congr 1; omega, fun i' x hi' hx => ?_⟩
        cases i' with
        | zero => have : r = x := by simpa using hx
                  subst this; exact hh
        | succ i' => exact h4 i' x (by omega) (by simpa using hx)
theorem match_first {n : Nfa} {l : List Rx} (h : Pre n l) (hr : ∀ r ∈ l, rightR r = true) (hn : rightN n = true) (w : List Int) : matchN n w = firstZ w l 0 := by
  unfold matchN
  rw [if_pos hn]
  have hlR : n.rule.length = n.set.length := h.ok.lR
  have hmem : ∀ x, x ∈ (atN n w).map (fun s => n.rule.getD s.toNat 0) → 0 ≤ x → ∃ (i : Nat) (r : Rx), l[i]? = some r ∧ x = (i : Int) ∧ hasR w r = true := by
    intro x hx h0
    obtain ⟨s, hs, rfl⟩ := List.mem_map.1 hx
    obtain ⟨L, hL⟩ := atN_clos n w
    have hs' := hs
    rw [hL] at hs'
    have hrng := clos_in hs'
    have e : n.rule.getD s.toNat 0 = n.rule.getD s.toNat (-1) := getD_def (by omega)
    rw [e] at h0 ⊢
    obtain ⟨i, hi⟩ : ∃ i : Nat, n.rule.getD s.toNat (-1) = (i : Int) := ⟨(n.rule.getD s.toNat (-1)).toNat, by omega⟩
    have he := (h.ru _ _).1 hi
    have hil : i < l.length := by
      rcases Nat.lt_or_ge i l.length with h' | h'
      · exact h'
      · rw [List.getElem?_eq_none (by rw [endsP_len]; omega)] at he; cases he
    refine ⟨i, l[i], List.getElem?_eq_getElem hil, hi, (leads h hr w (List.getElem?_eq_getElem hil) he).1 ?_⟩
    rw [show ((s.toNat : Nat) : Int) = s by omega]; exact hs
  have hin : ∀ (i : Nat) (r : Rx), l[i]? = some r → hasR w r = true → (i : Int) ∈ (atN n w).map (fun s => n.rule.getD s.toNat 0) := by
    intro i r hi hh
    have hil : i < l.length := by
      rcases Nat.lt_or_ge i l.length with h' | h'
      · exact h'
      · rw [List.getElem?_eq_none h'] at hi; cases hi
    obtain ⟨s, hs⟩ : ∃ s, (endsP l 1)[i]? = some s := ⟨_, List.getElem?_eq_getElem (by rw [endsP_len]; exact hil)⟩
    have hm := (leads h hr w hi hs).2 hh
    refine List.mem_map.2 ⟨(s : Int), hm, ?_⟩
    have hru := (h.ru s i).2 hs
    have hsl := endsP_rng l 1 s (List.mem_of_getElem? hs)
    have hk := h.k
    simp only [kN] at hk
    rw [Int.toNat_natCast, getD_def (e := (-1 : Int)) (by omega)]; exact hru
  refine best_eq ?_
  rcases firstZ_spec w l 0 with ⟨h1, h2⟩ | ⟨i, r, h1, h2, h3, h4⟩
  · rw [h1]
    refine .inl ⟨rfl, fun x hx => ?_⟩
    by_cases h0 : 0 ≤ x
    · obtain ⟨i, r, g1, g2, g3⟩ := hmem x hx h0
      rw [h2 r (List.mem_of_getElem? g1)] at g3; cases g3
    · omega
  · rw [h3, Nat.zero_add]
    refine .inr ⟨by omega, hin i r h1 h2, fun x hx h0 => ?_⟩
    obtain ⟨i', r', g1, g2, g3⟩ := hmem x hx h0
    rw [g2]
    rcases Nat.lt_or_ge i' i with h' | h'
    · rw [h4 i' r' h' g1] at g3; cases g3
    · omega
end Go.Proofs.W
end
/- Machines without free steps: what they are as data; whether one may be; a step. -/
section
set_option maxHeartbeats 4000000
set_option linter.unusedVariables false
set_option linter.unusedSimpArgs false
namespace Go.Proofs.W
open Go Vm Go.Proofs.Zs07

structure Dfa where
  next : List (List Int)
  rule : List Int
def rowD (r : List Int) : D := .agg (r.map (.int .i64))
def rowsD (l : List (List Int)) : D := .sl false (l.map rowD)
def dfaD (d : Dfa) : D := .agg [rowsD d.next, isD d.rule]
def tyM (d : Dfa) : Prop := ∀ r ∈ d.next, r.length = 16
theorem strip_row (r : List Int) : strip (rowD r) = some (rowD r) := by simp [rowD, strip, strip_ints]
theorem strip_rows (l : List (List Int)) : stripL (l.map rowD) = some (l.map rowD) := by
  induction l with
  | nil => rfl
  | cons q r ih => simp [stripL, ih, strip_row]
theorem strip_rowsD (l : List (List Int)) : strip (rowsD l) = some (rowsD l) := by simp [rowsD, strip, strip_rows]
theorem strip_dfa (d : Dfa) : strip (dfaD d) = some (dfaD d) := by simp [dfaD, strip, stripL, strip_rowsD, strip_is]
theorem dfa_noTup (d : Dfa) : noTup (dfaD d) = true := rfl
theorem dfa_cells (d : Dfa) : (dfaD d).cells = [.sl false (d.next.map rowD), .sl false (d.rule.map (.int .i64))] := rfl
theorem dfa_aggQ (d : Dfa) : aggQ (dfaD d) = true := rfl
theorem row_noTup (r : List Int) : noTup (rowD r) = true := rfl
theorem row_cells (r : List Int) : (rowD r).cells = r.map (.int .i64) := rfl
theorem row_aggQ (r : List Int) : aggQ (rowD r) = true := rfl
def toOk (n : Nat) (t : Int) : Bool := decide (-1 ≤ t) && decide (t < n)
def rowOkD (d : Dfa) (i : Nat) : Bool := decide (-1 ≤ d.rule.getD i 0) && decide (d.rule.getD i 0 < 16) && (d.next.getD i []).all (toOk d.next.length)
def rightD (d : Dfa) : Bool := decide (1 ≤ d.next.length ∧ d.next.length ≤ 200 ∧ d.rule.length = d.next.length) && allN (rowOkD d) 0 d.next.length
theorem row_get {d : Dfa} {i : Nat} (h : i < d.next.length) : (d.next.map rowD)[i]? = some (rowD d.next[i]) := by simp [h]
theorem rowOkD_at {d : Dfa} {i : Nat} (h : i < d.next.length) (h2 : i < d.rule.length) : rowOkD d i = (decide (-1 ≤ d.rule[i]) && decide (d.rule[i] < 16) && (d.next[i].drop 0).all (toOk d.next.length)) := by
  simp [rowOkD, List.getD, h, h2]
theorem dright_ok (d : Dfa) (ht : tyM d) (hs : d.next.length ≤ 1000000) (hs2 : d.rule.length ≤ 9223372036854775807) : PureF Tryd.prog A 9 [dfaD d] (.bool (rightD d)) := by
  have a1 := dfa_noTup d
  have a2 := dfa_cells d
  have a3 := dfa_aggQ d
  refine evF_inB (n := 59) (rs := [.tmp 2]) Tryd.func9 rfl rfl rfl rfl rfl rfl ?_
  by_cases c : 1 ≤ d.next.length ∧ d.next.length ≤ 200 ∧ d.rule.length = d.next.length
  case neg =>
    have hz : rightD d = false := by simp only [rightD, c, decide_false, Bool.false_and]
    rw [hz]
    repeat' (first | refine wz1 ?_ | refine wz2 ?_ | refine wz3 ?_ | refine wz4 ?_ | refine wz5 ?_ | refine wz6 ?_ | simp -dsimp (maxSteps:=999999) (disch:=omega) only[go_sem,simprocAttr, *] | ((first | refine wz8 (fun hh => ?_) (fun hh => ?_) | refine wz9 (fun hh => ?_) (fun hh => ?_) | refine wz7 (fun hh => ?_) (fun hh => ?_)) <;> (try replace hh := vqs hh) <;> (try (exfalso; first | exact hh | omega))))
  have hz : rightD d = allN (rowOkD d) 0 d.next.length := by simp only [rightD, c, and_self, decide_true, Bool.true_and]
  rw [hz]
  generalize hG : allN (rowOkD d) 0 d.next.length = G
  clear hz
  obtain ⟨c1, c2, c3⟩ := c
  replace hG : Hid (allN (rowOkD d) 0 d.next.length = G) := hG
  repeat' (first | refine wz1 ?_ | refine wz2 ?_ | refine wz3 ?_ | refine wz4 ?_ | refine wz5 ?_ | refine wz6 ?_ | simp -dsimp (maxSteps:=999999) (disch:=omega) only[go_sem,simprocAttr, *] | ((first | refine wz8 (fun hh => ?_) (fun hh => ?_) | refine wz9 (fun hh => ?_) (fun hh => ?_) | refine wz7 (fun hh => ?_) (fun hh => ?_)) <;> (try replace hh := vqs hh) <;> (try (exfalso; first | exact hh | omega))))
  have c4 : d.rule.length ≤ d.next.length := by omega
  replace c3 : d.next.length ≤ d.rule.length := by omega
  refine wpB_loop (fun e H => ∃ j m : Nat, j + m = d.next.length ∧ hget H 0 = .arr [dfaD d] ∧ 1 ≤ H.length ∧ e 1 = .ptr 0 0 0 ∧ e 3 = .int .i64 d.next.length ∧ e 25 = .sl false (d.next.map rowD) ∧ e 26 = .int .i64 d.next.length ∧ e 27 = .int .i64 j ∧ G = allN (rowOkD d) j m) (fun e H => d.next.length - natOf (e 27)) ?_ ?_
  · exact ⟨0, d.next.length, by omega, rfl, by simp, gs, gs, gs, gs, gs, Eq.symm hG⟩
  clear hG
  rintro e H ⟨j, m, hj, h0, hl, e1, e3, e25, e26, e27, ha⟩ R hR
  by_cases hb : j < d.next.length
  case neg =>
    obtain rfl : m = 0 := by omega
    have : G = true := ha
    subst this
    clear hj ha
    repeat' (first | refine wz1 ?_ | refine wz2 ?_ | refine wz3 ?_ | refine wz4 ?_ | refine wz5 ?_ | refine wz6 ?_ | simp -dsimp (maxSteps:=999999) (disch:=omega) only[go_sem,simprocAttr, *] | ((first | refine wz8 (fun hh => ?_) (fun hh => ?_) | refine wz9 (fun hh => ?_) (fun hh => ?_) | refine wz7 (fun hh => ?_) (fun hh => ?_)) <;> (try replace hh := vqs hh) <;> (try (exfalso; first | exact hh | omega))))
  obtain ⟨m, rfl⟩ : ∃ x, m = x + 1 := ⟨m - 1, by omega⟩
  have hjr : j < d.rule.length := by omega
  have hrow := row_get hb
  have hlen := ht _ (List.getElem_mem hb)
  rw [allN, rowOkD_at hb hjr] at ha
  generalize d.next[j] = row at hrow hlen ha
  generalize hru : d.rule[j] = ru at ha
  replace ha : Hid (G = ((decide (-1 ≤ ru) && decide (ru < 16) && (row.drop 0).all (toOk d.next.length)) && allN (rowOkD d) (j + 1) m)) := ha
  have b1 := row_noTup row
  have b2 := row_cells row
  have b3 := row_aggQ row
  repeat' (first | refine wz1 ?_ | refine wz2 ?_ | refine wz3 ?_ | refine wz4 ?_ | refine wz5 ?_ | refine wz6 ?_ | simp -dsimp (maxSteps:=999999) (disch:=omega) only[go_sem,simprocAttr, *] | ((first | refine wz8 (fun hh => ?_) (fun hh => ?_) | refine wz9 (fun hh => ?_) (fun hh => ?_) | refine wz7 (fun hh => ?_) (fun hh => ?_)) <;> (try replace hh := vqs hh) <;> (try (exfalso; first | exact hh | omega))))
  · have : G = false := by rw [show G = _ from ha]; simp; omega
    rw [this]
  rotate_left
  · have : G = false := by rw [show G = _ from ha]; simp; omega
    rw [this]
  have ha2 : Hid (G = ((row.drop 0).all (toOk d.next.length) && allN (rowOkD d) (j + 1) m)) := by
    show G = _
    rw [show G = _ from ha]
    simp [*]
  clear ha
  refine wpB_loop (fun e H => ∃ i : Nat, i ≤ 16 ∧ hget H 0 = .arr [dfaD d] ∧ 1 ≤ H.length ∧ e 1 = .ptr 0 0 0 ∧ e 3 = .int .i64 d.next.length ∧ e 25 = .sl false (d.next.map rowD) ∧ e 26 = .int .i64 d.next.length ∧ e 27 = .int .i64 j ∧ e 46 = rowD row ∧ e 47 = .int .i64 i ∧ G = ((row.drop i).all (toOk d.next.length) && allN (rowOkD d) (j + 1) m)) (fun e H => 16 - natOf (e 47)) ?_ ?_
  · exact ⟨0, by omega, gs, by simp, gs, gs, gs, gs, gs, gs, gs, ha2⟩
  have k27 := e27
  clear ha2 e1 e3 e25 e26 e27 h0
  rintro e2 H2 ⟨i, hi, h0, hl2, e1, e3, e25, e26, e27, e46, e47, ha⟩ R2 hR2
  by_cases hb2 : i < 16
  case neg =>
    rw [List.drop_eq_nil_of_le (by omega)] at ha
    repeat' (first | refine wz1 ?_ | refine wz2 ?_ | refine wz3 ?_ | refine wz4 ?_ | refine wz5 ?_ | refine wz6 ?_ | simp -dsimp (maxSteps:=999999) (disch:=omega) only[go_sem,simprocAttr, *] | ((first | refine wz8 (fun hh => ?_) (fun hh => ?_) | refine wz9 (fun hh => ?_) (fun hh => ?_) | refine wz7 (fun hh => ?_) (fun hh => ?_)) <;> (try replace hh := vqs hh) <;> (try (exfalso; first | exact hh | omega))))
    refine hR _ _ ⟨j + 1, m, by omega, gs, by omega, gs, gs, gs, gs, gs, by simpa using ha⟩ ?_
    simp -dsimp (maxSteps:=999999) (disch:=omega) only[go_sem,simprocAttr, *,natOf_int]
  have hil : i < row.length := by omega
  rw [allL_drop hil] at ha
  have hcell : (row.map (D.int .i64))[i * 1]? = some (.int .i64 row[i]) := by simp [hil]
  generalize row[i] = t at ha hcell
  replace ha : Hid (G = ((toOk d.next.length t && (row.drop (i + 1)).all (toOk d.next.length)) && allN (rowOkD d) (j + 1) m)) := ha
  repeat' (first | refine wz1 ?_ | refine wz2 ?_ | refine wz3 ?_ | refine wz4 ?_ | refine wz5 ?_ | refine wz6 ?_ | simp -dsimp (maxSteps:=999999) (disch:=omega) only[go_sem,simprocAttr, *,rowD] | ((first | refine wz8 (fun hh => ?_) (fun hh => ?_) | refine wz9 (fun hh => ?_) (fun hh => ?_) | refine wpB_cond (by simp -dsimp (maxSteps:=999999) (disch:=omega) only[go_sem,simprocAttr, *,rowD]; exact rfl) (fun hh => ?_) (fun hh => ?_)) <;> (try replace hh := vqs hh) <;> (try (exfalso; first | exact hh | omega))))
  · have : G = false := by rw [show G = _ from ha]; simp [toOk]; omega
    rw [this]
  · refine hR2 _ _ ⟨i + 1, by omega, gs, by omega, gs, gs, gs, gs, gs, gs, gs, ?_⟩ ?_
    · rw [show G = _ from ha]
      have : toOk d.next.length t = true := by simp [toOk]; omega
      rw [this]; rfl
    · simp -dsimp (maxSteps:=999999) (disch:=omega) only[go_sem,simprocAttr, *,natOf_int]
  · have : G = false := by rw [show G = _ from ha]; simp [toOk]; omega
    rw [this]
/-- where a state goes -/
def nextD (d : Dfa) (at_ c : Int) : Int := if c < 0 ∨ 16 ≤ c then -1 else (d.next.getD at_.toNat []).getD c.toNat 0
theorem dnext_ok (d : Dfa) (a c : Int) (ht : tyM d) (h0 : 0 ≤ a) (h1 : a < d.next.length) (hs : d.next.length ≤ 1000000) : PureF Tryd.prog A 18 [dfaD d, .int .i64 a, .int .i64 c] (.int .i64 (nextD d a c)) := by
  have a1 := dfa_noTup d
  have a2 := dfa_cells d
  have a3 := dfa_aggQ d
  refine evF_inB (n := 20) (rs := [.tmp 6]) Tryd.func18 rfl rfl rfl rfl rfl rfl ?_
  by_cases hc : c < 0 ∨ 16 ≤ c
  · have hz : nextD d a c = -1 := by simp [nextD, hc]
    rw [hz]
    rcases hc with hc | hc
    · repeat' (first | refine wz1 ?_ | refine wz2 ?_ | refine wz3 ?_ | refine wz4 ?_ | refine wz5 ?_ | refine wz6 ?_ | simp -dsimp (maxSteps:=999999) (disch:=omega) only[go_sem,simprocAttr, *] | ((first | refine wz8 (fun hh => ?_) (fun hh => ?_) | refine wz9 (fun hh => ?_) (fun hh => ?_) | refine wz7 (fun hh => ?_) (fun hh => ?_)) <;> (try replace hh := vqs hh) <;> (try (exfalso; first | exact hh | omega))))
    · repeat' (first | refine wz1 ?_ | refine wz2 ?_ | refine wz3 ?_ | refine wz4 ?_ | refine wz5 ?_ | refine wz6 ?_ | simp -dsimp (maxSteps:=999999) (disch:=omega) only[go_sem,simprocAttr, *] | ((first | refine wz8 (fun hh => ?_) (fun hh => ?_) | refine wz9 (fun hh => ?_) (fun hh => ?_) | refine wz7 (fun hh => ?_) (fun hh => ?_)) <;> (try replace hh := vqs hh) <;> (try (exfalso; first | exact hh | omega))))
  · have hb : a.toNat < d.next.length := by omega
    have hrow := row_get hb
    have hlen := ht _ (List.getElem_mem hb)
    have hz : nextD d a c = d.next[a.toNat].getD c.toNat 0 := by unfold nextD; rw [if_neg hc]; simp [List.getD, hb]
    rw [hz]
    generalize d.next[a.toNat] = row at hrow hlen
    have hil : c.toNat < row.length := by omega
    have hcell : (row.map (D.int .i64))[c.toNat * 1]? = some (.int .i64 row[c.toNat]) := by simp [hil]
    have hg : row.getD c.toNat 0 = row[c.toNat] := by simp [List.getD, hil]
    rw [hg]
    generalize row[c.toNat] = t at hcell
    clear hz hg
    have hc1 : 0 ≤ c := by omega
    have hc2 : c < 16 := by omega
    clear hc
    have b1 := row_noTup row
    have b2 := row_cells row
    have b3 := row_aggQ row
    repeat' (first | refine wz1 ?_ | refine wz2 ?_ | refine wz3 ?_ | refine wz4 ?_ | refine wz5 ?_ | refine wz6 ?_ | simp -dsimp (maxSteps:=999999) (disch:=omega) only[go_sem,simprocAttr, *,rowD] | ((first | refine wz8 (fun hh => ?_) (fun hh => ?_) | refine wz9 (fun hh => ?_) (fun hh => ?_) | refine wpB_cond (by simp -dsimp (maxSteps:=999999) (disch:=omega) only[go_sem,simprocAttr, *,rowD]; exact rfl) (fun hh => ?_) (fun hh => ?_)) <;> (try replace hh := vqs hh) <;> (try (exfalso; first | exact hh | omega))))
/-- the state behind a word -/
def runD (d : Dfa) : Int → List Int → Int
  | a, [] => a
  | a, c :: w => if nextD d a c < 0 then -1 else runD d (nextD d a c) w
theorem row_of {d : Dfa} (hr : rightD d = true) {i : Nat} (h : i < d.next.length) : -1 ≤ d.rule.getD i 0 ∧ d.rule.getD i 0 < 16 ∧ ∀ t ∈ d.next.getD i [], -1 ≤ t ∧ t < d.next.length := by
  unfold rightD at hr
  simp only [Bool.and_eq_true] at hr
  have := allN_iff.1 hr.2 i (by omega) (by omega)
  unfold rowOkD at this
  simp only [Bool.and_eq_true, decide_eq_true_eq, List.all_eq_true] at this
  refine ⟨this.1.1, this.1.2, fun t ht => ?_⟩
  have := this.2 t ht
  unfold toOk at this
  simp only [Bool.and_eq_true, decide_eq_true_eq] at this
  exact this
theorem right_len {d : Dfa} (hr : rightD d = true) : 1 ≤ d.next.length ∧ d.next.length ≤ 200 ∧ d.next.length ≤ d.rule.length ∧ d.rule.length ≤ d.next.length := by
  unfold rightD at hr
  simp only [Bool.and_eq_true, decide_eq_true_eq] at hr
  omega
theorem next_in {d : Dfa} (hr : rightD d = true) (ht : tyM d) {a c : Int} (h0 : 0 ≤ a) (h1 : a < d.next.length) : -1 ≤ nextD d a c ∧ nextD d a c < d.next.length := by
  have hl := right_len hr
  unfold nextD
  split
  · omega
  · have hb : a.toNat < d.next.length := by omega
    obtain ⟨_, _, h⟩ := row_of hr hb
    have hlen := ht _ (List.getElem_mem hb)
    have e : d.next.getD a.toNat [] = d.next[a.toNat] := by simp [List.getD, hb]
    rw [e] at h ⊢
    have hil : c.toNat < d.next[a.toNat].length := by omega
    have e2 : d.next[a.toNat].getD c.toNat 0 = d.next[a.toNat][c.toNat] := by simp [List.getD, hil]
    rw [e2]
    exact h _ (List.getElem_mem hil)
theorem runD_in {d : Dfa} (hr : rightD d = true) (ht : tyM d) : ∀ {w : List Int} {a : Int}, 0 ≤ a → a < d.next.length → -1 ≤ runD d a w ∧ runD d a w < d.next.length
  | [], a, h0, h1 => by simp only [runD]; omega
  | c :: w, a, h0, h1 => by
    have := next_in hr ht (c := c) h0 h1
    simp only [runD]
    split
    · omega
    · exact runD_in hr ht (by omega) this.2
theorem stripD (d : Dfa) : stripL [dfaD d] = some [dfaD d] := strip1 (strip_dfa d)
theorem stripDii (d : Dfa) (a c : Int) : stripL [dfaD d, .int .i64 a, .int .i64 c] = some [dfaD d, .int .i64 a, .int .i64 c] := strip3 (strip_dfa d) rfl rfl
theorem stripDw (d : Dfa) (w : List Int) : stripL [dfaD d, isD w] = some [dfaD d, isD w] := strip2 (strip_dfa d) (strip_is w)
theorem stripDwi (d : Dfa) (w : List Int) (c : Int) : stripL [dfaD d, isD w, .int .i64 c] = some [dfaD d, isD w, .int .i64 c] := strip3 (strip_dfa d) (strip_is w) rfl
end Go.Proofs.W
end
/- Machines without free steps: words, and the longest match. -/
section
set_option maxHeartbeats 4000000
set_option linter.unusedVariables false
set_option linter.unusedSimpArgs false
namespace Go.Proofs.W
open Go Vm Go.Proofs.Zs07

def ruleAt (d : Dfa) (a : Int) : Int := d.rule.getD a.toNat 0
theorem rule_cell {d : Dfa} {a : Int} (h0 : 0 ≤ a) (h1 : a < d.rule.length) : (d.rule.map (D.int .i64))[a.toNat]? = some (.int .i64 (ruleAt d a)) := by
  have hb : a.toNat < d.rule.length := by omega
  simp [ruleAt, List.getD, hb]
/-- the last place at which a rule ends, and that rule: from a state, a place on -/
def lgD (d : Dfa) : Int → Int → List Int → Int × Int → Int × Int
  | _, _, [], er => er
  | a, p, c :: w, er => if nextD d a c < 0 then er else lgD d (nextD d a c) (p + 1) w (if 0 ≤ ruleAt d (nextD d a c) then (p + 1, ruleAt d (nextD d a c)) else er)
def longD (d : Dfa) (w : List Int) (f : Int) : Int × Int := if rightD d = true ∧ 0 ≤ f ∧ f ≤ w.length then lgD d 0 f (w.drop f.toNat) (-1, -1) else (-1, -1)
def pairD (x : Int × Int) : D := .tup [.int .i64 x.1, .int .i64 x.2]
theorem dlong_ok (d : Dfa) (w : List Int) (f : Int) (ht : tyM d) (hs : d.next.length ≤ 1000000) (hs2 : d.rule.length ≤ 9223372036854775807) (hw : w.length ≤ 1000000) : PureF Tryd.prog A 7 [dfaD d, isD w, .int .i64 f] (pairD (longD d w f)) := by
  have a1 := dfa_noTup d
  have a2 := dfa_cells d
  have a3 := dfa_aggQ d
  have ew : isD w = .sl false (w.map (.int .i64)) := rfl
  refine evF_inB (n := 61) (rs := [.tmp 6, .tmp 7]) Tryd.func7 rfl rfl rfl rfl rfl rfl ?_
  repeat' (first | refine wz1 ?_ | refine wz2 ?_ | refine wz3 ?_ | refine wz4 ?_ | refine wz5 ?_ | refine wz6 ?_ | simp -dsimp (maxSteps:=999999) (disch:=omega) only[go_sem,simprocAttr, *] | ((first | refine wz8 (fun hh => ?_) (fun hh => ?_) | refine wz9 (fun hh => ?_) (fun hh => ?_) | refine wz7 (fun hh => ?_) (fun hh => ?_)) <;> (try replace hh := vqs hh) <;> (try (exfalso; first | exact hh | omega))))
  refine evB_plain bo9 rfl rfl (stripD d) (dright_ok d ht hs hs2) ?_
  cases hr : rightD d with
  | false =>
    have hz : longD d w f = (-1, -1) := by unfold longD; rw [hr]; simp
    rw [hz]
    repeat' (first | refine wz1 ?_ | refine wz2 ?_ | refine wz3 ?_ | refine wz4 ?_ | refine wz5 ?_ | refine wz6 ?_ | simp -dsimp (maxSteps:=999999) (disch:=omega) only[go_sem,simprocAttr, *,pairD] | ((first | refine wz8 (fun hh => ?_) (fun hh => ?_) | refine wz9 (fun hh => ?_) (fun hh => ?_) | refine wpB_cond (by simp -dsimp (maxSteps:=999999) (disch:=omega) only[go_sem,simprocAttr, *,pairD]; exact rfl) (fun hh => ?_) (fun hh => ?_)) <;> (try replace hh := vqs hh) <;> (try (exfalso; first | exact hh | omega))))
    rfl
  | true =>
    have hl := right_len hr
    by_cases hf0 : f < 0
    · have hz : longD d w f = (-1, -1) := by unfold longD; rw [if_neg (by omega)]
      rw [hz]
      repeat' (first | refine wz1 ?_ | refine wz2 ?_ | refine wz3 ?_ | refine wz4 ?_ | refine wz5 ?_ | refine wz6 ?_ | simp -dsimp (maxSteps:=999999) (disch:=omega) only[go_sem,simprocAttr, *,pairD] | ((first | refine wz8 (fun hh => ?_) (fun hh => ?_) | refine wz9 (fun hh => ?_) (fun hh => ?_) | refine wpB_cond (by simp -dsimp (maxSteps:=999999) (disch:=omega) only[go_sem,simprocAttr, *,pairD]; exact rfl) (fun hh => ?_) (fun hh => ?_)) <;> (try replace hh := vqs hh) <;> (try (exfalso; first | exact hh | omega))))
      rfl
    by_cases hf1 : (w.length : Int) < f
    · have hz : longD d w f = (-1, -1) := by unfold longD; rw [if_neg (by omega)]
      rw [hz]
      repeat' (first | refine wz1 ?_ | refine wz2 ?_ | refine wz3 ?_ | refine wz4 ?_ | refine wz5 ?_ | refine wz6 ?_ | simp -dsimp (maxSteps:=999999) (disch:=omega) only[go_sem,simprocAttr, *,pairD] | ((first | refine wz8 (fun hh => ?_) (fun hh => ?_) | refine wz9 (fun hh => ?_) (fun hh => ?_) | refine wpB_cond (by simp -dsimp (maxSteps:=999999) (disch:=omega) only[go_sem,simprocAttr, *,pairD]; exact rfl) (fun hh => ?_) (fun hh => ?_)) <;> (try replace hh := vqs hh) <;> (try (exfalso; first | exact hh | omega))))
      rfl
    have hz : longD d w f = lgD d 0 f (w.drop f.toNat) (-1, -1) := by unfold longD; rw [if_pos ⟨hr, by omega, by omega⟩]
    rw [hz]
    have hwl : (w.drop f.toNat).length = w.length - f.toNat := List.length_drop
    have hdr : List.drop f.toNat (List.take w.length (List.map (D.int .i64) w)) = (w.drop f.toNat).map (.int .i64) := by rw [← List.map_take, List.take_length, List.map_drop]
    have hhd := headInts w
    generalize hG : lgD d 0 f (w.drop f.toNat) (-1, -1) = G
    replace hG : Hid (G = lgD d 0 (f + ((0 : Nat) : Int)) ((w.drop f.toNat).drop 0) (-1, -1)) := by show G = _; rw [← hG]; simp
    clear hz
    generalize hu : w.drop f.toNat = u at hwl hdr hG
    have hul : u.length ≤ 1000000 := by omega
    have huf : f + u.length ≤ 1000000 := by omega
    clear hwl
    repeat' (first | refine wz1 ?_ | refine wz2 ?_ | refine wz3 ?_ | refine wz4 ?_ | refine wz5 ?_ | refine wz6 ?_ | simp -dsimp (maxSteps:=999999) (disch:=omega) only[go_sem,simprocAttr, *] | ((first | refine wz8 (fun hh => ?_) (fun hh => ?_) | refine wz9 (fun hh => ?_) (fun hh => ?_) | refine wz7 (fun hh => ?_) (fun hh => ?_)) <;> (try replace hh := vqs hh) <;> (try (exfalso; first | exact hh | omega))))
    refine wpB_loop (fun e H => ∃ (j : Nat) (a x y : Int), j ≤ u.length ∧ hget H 0 = .arr [dfaD d] ∧ e 2 = .int .i64 f ∧ e 3 = .ptr 0 0 0 ∧ e 8 = .int .i64 x ∧ e 9 = .int .i64 y ∧ e 10 = .int .i64 a ∧ e 30 = .sl false (u.map (.int .i64)) ∧ e 31 = .int .i64 u.length ∧ e 32 = .int .i64 j ∧ 0 ≤ a ∧ a < d.next.length ∧ G = lgD d a (f + j) (u.drop j) (x, y)) (fun e H => u.length - natOf (e 32)) ?_ ?_
    · exact ⟨0, 0, -1, -1, by omega, rfl, gs, gs, gs, gs, gs, gs, gs, gs, by omega, by omega, hG⟩
    clear hG
    rintro e H ⟨j, a, x, y, hj, h0, e2, e3, e8, e9, e10, e30, e31, e32, ha0, ha1, ha⟩ R hR
    by_cases hb : j < u.length
    case neg =>
      rw [List.drop_eq_nil_of_le (by omega)] at ha
      have : G = (x, y) := ha
      subst this
      clear ha
      repeat' (first | refine wz1 ?_ | refine wz2 ?_ | refine wz3 ?_ | refine wz4 ?_ | refine wz5 ?_ | refine wz6 ?_ | simp -dsimp (maxSteps:=999999) (disch:=omega) only[go_sem,simprocAttr, *,pairD] | ((first | refine wz8 (fun hh => ?_) (fun hh => ?_) | refine wz9 (fun hh => ?_) (fun hh => ?_) | refine wpB_cond (by simp -dsimp (maxSteps:=999999) (disch:=omega) only[go_sem,simprocAttr, *,pairD]; exact rfl) (fun hh => ?_) (fun hh => ?_)) <;> (try replace hh := vqs hh) <;> (try (exfalso; first | exact hh | omega))))
      rfl
    have hd : u.drop j = u[j] :: u.drop (j + 1) := List.drop_eq_getElem_cons hb
    rw [hd, lgD] at ha
    have hcell : (u.map (D.int .i64))[j]? = some (.int .i64 u[j]) := by simp [hb]
    generalize u[j] = c at ha hcell
    have hn := next_in hr ht (c := c) ha0 ha1
    replace ha : Hid (G = if nextD d a c < 0 then (x, y) else lgD d (nextD d a c) (f + j + 1) (u.drop (j + 1)) (if 0 ≤ ruleAt d (nextD d a c) then (f + j + 1, ruleAt d (nextD d a c)) else (x, y))) := ha
    repeat' (first | refine wz1 ?_ | refine wz2 ?_ | refine wz3 ?_ | refine wz4 ?_ | refine wz5 ?_ | refine wz6 ?_ | simp -dsimp (maxSteps:=999999) (disch:=omega) only[go_sem,simprocAttr, *] | ((first | refine wz8 (fun hh => ?_) (fun hh => ?_) | refine wz9 (fun hh => ?_) (fun hh => ?_) | refine wz7 (fun hh => ?_) (fun hh => ?_)) <;> (try replace hh := vqs hh) <;> (try (exfalso; first | exact hh | omega))))
    refine evB_plain bo18 rfl rfl (stripDii d a c) (dnext_ok d a c ht ha0 ha1 hs) ?_
    generalize nextD d a c = t at ha hn
    by_cases hc : t < 0
    · have : G = (x, y) := by rw [show G = _ from ha, if_pos hc]
      subst this
      clear ha
      repeat' (first | refine wz1 ?_ | refine wz2 ?_ | refine wz3 ?_ | refine wz4 ?_ | refine wz5 ?_ | refine wz6 ?_ | simp -dsimp (maxSteps:=999999) (disch:=omega) only[go_sem,simprocAttr, *,pairD] | ((first | refine wz8 (fun hh => ?_) (fun hh => ?_) | refine wz9 (fun hh => ?_) (fun hh => ?_) | refine wpB_cond (by simp -dsimp (maxSteps:=999999) (disch:=omega) only[go_sem,simprocAttr, *,pairD]; exact rfl) (fun hh => ?_) (fun hh => ?_)) <;> (try replace hh := vqs hh) <;> (try (exfalso; first | exact hh | omega))))
      rfl
    have hcr := rule_cell (d := d) (a := t) (by omega) (by omega)
    have hbd : -1 ≤ ruleAt d t := by
      have hb2 : t.toNat < d.next.length := by omega
      exact (row_of hr hb2).1
    generalize ruleAt d t = q at ha hcr hbd
    repeat' (first | refine wz1 ?_ | refine wz2 ?_ | refine wz3 ?_ | refine wz4 ?_ | refine wz5 ?_ | refine wz6 ?_ | simp -dsimp (maxSteps:=999999) (disch:=omega) only[go_sem,simprocAttr, *] | ((first | refine wz8 (fun hh => ?_) (fun hh => ?_) | refine wz9 (fun hh => ?_) (fun hh => ?_) | refine wz7 (fun hh => ?_) (fun hh => ?_)) <;> (try replace hh := vqs hh) <;> (try (exfalso; first | exact hh | omega))))
    · refine wpB_regionXL (prs := []) (by kernel_rfl) rfl (by kernel_rfl) ?_; simp -dsimp (maxSteps:=999999) (disch:=omega) only[go_sem,simprocAttr, *]
      repeat' (first | refine wz1 ?_ | refine wz2 ?_ | refine wz3 ?_ | refine wz4 ?_ | refine wz5 ?_ | refine wz6 ?_ | simp -dsimp (maxSteps:=999999) (disch:=omega) only[go_sem,simprocAttr, *] | ((first | refine wz8 (fun hh => ?_) (fun hh => ?_) | refine wz9 (fun hh => ?_) (fun hh => ?_) | refine wz7 (fun hh => ?_) (fun hh => ?_)) <;> (try replace hh := vqs hh) <;> (try (exfalso; first | exact hh | omega))))
      refine hR _ _ ⟨j + 1, t, f + j + 1, q, by omega, gs, gs, gs, gs, gs, gs, gs, gs, gs, by omega, by omega, ?_⟩ ?_
      · rw [show G = _ from ha, if_neg hc, if_pos (by omega)]
        congr 1; omega
      · simp -dsimp (maxSteps:=999999) (disch:=omega) only[go_sem,simprocAttr, *,natOf_int]
    · refine hR _ _ ⟨j + 1, t, x, y, by omega, gs, gs, gs, gs, gs, gs, gs, gs, gs, by omega, by omega, ?_⟩ ?_
      · rw [show G = _ from ha, if_neg hc, if_neg (by omega)]
        congr 1; omega
      · simp -dsimp (maxSteps:=999999) (disch:=omega) only[go_sem,simprocAttr, *,natOf_int]
end Go.Proofs.W
end
/- The document's functions on machines without free steps. -/
section
set_option maxHeartbeats 4000000
set_option linter.unusedVariables false
set_option linter.unusedSimpArgs false
namespace Go.Proofs.W
open Go Vm Go.Proofs.Zs07

theorem rright_ok (d : Dfa) (ht : tyM d) (hs : d.next.length ≤ 1000000) (hs2 : d.rule.length ≤ 9223372036854775807) : PureF Tryd.prog A 8 [dfaD d] (.bool (rightD d)) := by
  have a1 := dfa_noTup d
  have a2 := dfa_cells d
  have a3 := dfa_aggQ d
  refine evF_inB (n := 64) (rs := [.tmp 2]) Tryd.func8 rfl rfl rfl rfl rfl rfl ?_
  by_cases c : 1 ≤ d.next.length ∧ d.next.length ≤ 200 ∧ d.rule.length = d.next.length
  case neg =>
    have hz : rightD d = false := by simp only [rightD, c, decide_false, Bool.false_and]
    rw [hz]
    repeat' (first | refine wz1 ?_ | refine wz2 ?_ | refine wz3 ?_ | refine wz4 ?_ | refine wz5 ?_ | refine wz6 ?_ | simp -dsimp (maxSteps:=999999) (disch:=omega) only[go_sem,simprocAttr, *] | ((first | refine wz8 (fun hh => ?_) (fun hh => ?_) | refine wz9 (fun hh => ?_) (fun hh => ?_) | refine wz7 (fun hh => ?_) (fun hh => ?_)) <;> (try replace hh := vqs hh) <;> (try (exfalso; first | exact hh | omega))))
  have hz : rightD d = allN (rowOkD d) 0 d.next.length := by simp only [rightD, c, and_self, decide_true, Bool.true_and]
  rw [hz]
  generalize hG : allN (rowOkD d) 0 d.next.length = G
  clear hz
  obtain ⟨c1, c2, c3⟩ := c
  replace hG : Hid (allN (rowOkD d) 0 d.next.length = G) := hG
  repeat' (first | refine wz1 ?_ | refine wz2 ?_ | refine wz3 ?_ | refine wz4 ?_ | refine wz5 ?_ | refine wz6 ?_ | simp -dsimp (maxSteps:=999999) (disch:=omega) only[go_sem,simprocAttr, *] | ((first | refine wz8 (fun hh => ?_) (fun hh => ?_) | refine wz9 (fun hh => ?_) (fun hh => ?_) | refine wz7 (fun hh => ?_) (fun hh => ?_)) <;> (try replace hh := vqs hh) <;> (try (exfalso; first | exact hh | omega))))
  have c4 : d.rule.length ≤ d.next.length := by omega
  replace c3 : d.next.length ≤ d.rule.length := by omega
  generalize hN : d.rule.length = n
  have n1 : n ≤ d.next.length := by omega
  have n2 : d.next.length ≤ n := by omega
  have hnn : (n : Int) = d.next.length := by omega
  refine wpB_loop (fun e H => ∃ j m : Nat, j + m = d.next.length ∧ hget H 0 = .arr [dfaD d] ∧ e 1 = .ptr 0 0 0 ∧ e 3 = .int .i64 n ∧ e 4 = .int .i64 j ∧ G = allN (rowOkD d) j m) (fun e H => d.next.length - natOf (e 4)) ?_ ?_
  · exact ⟨0, d.next.length, by omega, rfl, gs, gs, gs, Eq.symm hG⟩
  clear hG
  rintro e H ⟨j, m, hj, h0, e1, e3, e4, ha⟩ R hR
  by_cases hb : j < d.next.length
  case neg =>
    obtain rfl : m = 0 := by omega
    have : G = true := ha
    subst this
    clear hj ha
    repeat' (first | refine wz1 ?_ | refine wz2 ?_ | refine wz3 ?_ | refine wz4 ?_ | refine wz5 ?_ | refine wz6 ?_ | simp -dsimp (maxSteps:=999999) (disch:=omega) only[go_sem,simprocAttr, *] | ((first | refine wz8 (fun hh => ?_) (fun hh => ?_) | refine wz9 (fun hh => ?_) (fun hh => ?_) | refine wz7 (fun hh => ?_) (fun hh => ?_)) <;> (try replace hh := vqs hh) <;> (try (exfalso; first | exact hh | omega))))
  obtain ⟨m, rfl⟩ : ∃ x, m = x + 1 := ⟨m - 1, by omega⟩
  have hjr : j < d.rule.length := by omega
  have hrow := row_get hb
  have hlen := ht _ (List.getElem_mem hb)
  rw [allN, rowOkD_at hb hjr] at ha
  generalize d.next[j] = row at hrow hlen ha
  generalize hru : d.rule[j] = ru at ha
  replace ha : Hid (G = ((decide (-1 ≤ ru) && decide (ru < 16) && (row.drop 0).all (toOk d.next.length)) && allN (rowOkD d) (j + 1) m)) := ha
  have b1 := row_noTup row
  have b2 := row_cells row
  have b3 := row_aggQ row
  clear hN hnn
  repeat' (first | refine wz1 ?_ | refine wz2 ?_ | refine wz3 ?_ | refine wz4 ?_ | refine wz5 ?_ | refine wz6 ?_ | simp -dsimp (maxSteps:=999999) (disch:=omega) only[go_sem,simprocAttr, *] | ((first | refine wz8 (fun hh => ?_) (fun hh => ?_) | refine wz9 (fun hh => ?_) (fun hh => ?_) | refine wz7 (fun hh => ?_) (fun hh => ?_)) <;> (try replace hh := vqs hh) <;> (try (exfalso; first | exact hh | omega))))
  · have : G = false := by rw [show G = _ from ha]; simp; omega
    rw [this]
  rotate_left
  · have : G = false := by rw [show G = _ from ha]; simp; omega
    rw [this]
  have ha2 : Hid (G = ((row.drop 0).all (toOk d.next.length) && allN (rowOkD d) (j + 1) m)) := by
    show G = _
    rw [show G = _ from ha]
    have h1 : decide (-1 ≤ ru) = true := by simp; omega
    have h2 : decide (ru < 16) = true := by simp; omega
    rw [h1, h2]; simp
  clear ha
  refine wpB_loop (fun e H => ∃ i : Nat, i ≤ 16 ∧ hget H 0 = .arr [dfaD d] ∧ e 1 = .ptr 0 0 0 ∧ e 3 = .int .i64 n ∧ e 4 = .int .i64 j ∧ e 5 = .int .i64 i ∧ G = ((row.drop i).all (toOk d.next.length) && allN (rowOkD d) (j + 1) m)) (fun e H => 16 - natOf (e 5)) ?_ ?_
  · exact ⟨0, by omega, gs, gs, gs, gs, gs, ha2⟩
  have k4 := e4
  clear ha2 e1 e3 e4 h0
  rintro e2 H2 ⟨i, hi, h0, e1, e3, e4, e5, ha⟩ R2 hR2
  by_cases hb2 : i < 16
  case neg =>
    rw [List.drop_eq_nil_of_le (by omega)] at ha
    repeat' (first | refine wz1 ?_ | refine wz2 ?_ | refine wz3 ?_ | refine wz4 ?_ | refine wz5 ?_ | refine wz6 ?_ | simp -dsimp (maxSteps:=999999) (disch:=omega) only[go_sem,simprocAttr, *] | ((first | refine wz8 (fun hh => ?_) (fun hh => ?_) | refine wz9 (fun hh => ?_) (fun hh => ?_) | refine wz7 (fun hh => ?_) (fun hh => ?_)) <;> (try replace hh := vqs hh) <;> (try (exfalso; first | exact hh | omega))))
    refine hR _ _ ⟨j + 1, m, by omega, gs, gs, gs, gs, by simpa using ha⟩ ?_
    simp -dsimp (maxSteps:=999999) (disch:=omega) only[go_sem,simprocAttr, *,natOf_int]
  have hil : i < row.length := by omega
  rw [allL_drop hil] at ha
  have hcell : (row.map (D.int .i64))[i * 1]? = some (.int .i64 row[i]) := by simp [hil]
  generalize row[i] = t at ha hcell
  replace ha : Hid (G = ((toOk d.next.length t && (row.drop (i + 1)).all (toOk d.next.length)) && allN (rowOkD d) (j + 1) m)) := ha
  repeat' (first | refine wz1 ?_ | refine wz2 ?_ | refine wz3 ?_ | refine wz4 ?_ | refine wz5 ?_ | refine wz6 ?_ | simp -dsimp (maxSteps:=999999) (disch:=omega) only[go_sem,simprocAttr, *,rowD] | ((first | refine wz8 (fun hh => ?_) (fun hh => ?_) | refine wz9 (fun hh => ?_) (fun hh => ?_) | refine wpB_cond (by simp -dsimp (maxSteps:=999999) (disch:=omega) only[go_sem,simprocAttr, *,rowD]; exact rfl) (fun hh => ?_) (fun hh => ?_)) <;> (try replace hh := vqs hh) <;> (try (exfalso; first | exact hh | omega))))
  · have : G = false := by rw [show G = _ from ha]; simp [toOk]; omega
    rw [this]
  · refine hR2 _ _ ⟨i + 1, by omega, gs, gs, gs, gs, gs, ?_⟩ ?_
    · rw [show G = _ from ha]
      have : toOk d.next.length t = true := by simp [toOk]; omega
      rw [this]; rfl
    · simp -dsimp (maxSteps:=999999) (disch:=omega) only[go_sem,simprocAttr, *,natOf_int]
  · have : G = false := by rw [show G = _ from ha]; simp [toOk]; omega
    rw [this]
theorem rrun_ok (d : Dfa) (w : List Int) (ht : tyM d) (hr : rightD d = true) (hw : w.length ≤ 1000000) : PureF Tryd.prog A 12 [dfaD d, isD w] (.int .i64 (runD d 0 w)) := by
  have a1 := dfa_noTup d
  have a2 := dfa_cells d
  have a3 := dfa_aggQ d
  have hl := right_len hr
  have ew : isD w = .sl false (w.map (.int .i64)) := rfl
  refine evF_inB (n := 40) (rs := [.tmp 4]) Tryd.func12 rfl rfl rfl rfl rfl rfl ?_
  generalize hG : runD d 0 w = G
  replace hG : Hid (G = runD d 0 (w.drop 0)) := hG.symm
  repeat' (first | refine wz1 ?_ | refine wz2 ?_ | refine wz3 ?_ | refine wz4 ?_ | refine wz5 ?_ | refine wz6 ?_ | simp -dsimp (maxSteps:=999999) (disch:=omega) only[go_sem,simprocAttr, *] | ((first | refine wz8 (fun hh => ?_) (fun hh => ?_) | refine wz9 (fun hh => ?_) (fun hh => ?_) | refine wz7 (fun hh => ?_) (fun hh => ?_)) <;> (try replace hh := vqs hh) <;> (try (exfalso; first | exact hh | omega))))
  refine wpB_loop (fun e H => ∃ (j : Nat) (a : Int), j ≤ w.length ∧ hget H 0 = .arr [dfaD d] ∧ e 1 = isD w ∧ e 2 = .ptr 0 0 0 ∧ e 5 = .int .i64 a ∧ e 6 = .int .i64 j ∧ -1 ≤ a ∧ a < d.next.length ∧ G = if a < 0 then a else runD d a (w.drop j)) (fun e H => w.length - natOf (e 6)) ?_ ?_
  · exact ⟨0, 0, by omega, rfl, gs, gs, gs, gs, by omega, by omega, hG⟩
  clear hG
  rintro e H ⟨j, a, hj, h0, e1, e2, e5, e6, ha0, ha1, ha⟩ R hR
  by_cases hb : j < w.length
  case neg =>
    rw [List.drop_eq_nil_of_le (by omega)] at ha
    have : G = a := by rw [ha]; split <;> rfl
    subst this
    clear ha
    repeat' (first | refine wz1 ?_ | refine wz2 ?_ | refine wz3 ?_ | refine wz4 ?_ | refine wz5 ?_ | refine wz6 ?_ | simp -dsimp (maxSteps:=999999) (disch:=omega) only[go_sem,simprocAttr, *] | ((first | refine wz8 (fun hh => ?_) (fun hh => ?_) | refine wz9 (fun hh => ?_) (fun hh => ?_) | refine wz7 (fun hh => ?_) (fun hh => ?_)) <;> (try replace hh := vqs hh) <;> (try (exfalso; first | exact hh | omega))))
  by_cases hc0 : a < 0
  · rw [if_pos hc0] at ha
    subst ha
    repeat' (first | refine wz1 ?_ | refine wz2 ?_ | refine wz3 ?_ | refine wz4 ?_ | refine wz5 ?_ | refine wz6 ?_ | simp -dsimp (maxSteps:=999999) (disch:=omega) only[go_sem,simprocAttr, *] | ((first | refine wz8 (fun hh => ?_) (fun hh => ?_) | refine wz9 (fun hh => ?_) (fun hh => ?_) | refine wz7 (fun hh => ?_) (fun hh => ?_)) <;> (try replace hh := vqs hh) <;> (try (exfalso; first | exact hh | omega))))
  rw [if_neg hc0] at ha
  have hd : w.drop j = w[j] :: w.drop (j + 1) := List.drop_eq_getElem_cons hb
  rw [hd, runD] at ha
  have hcell : (w.map (D.int .i64))[j]? = some (.int .i64 w[j]) := by simp [hb]
  generalize w[j] = c at ha hcell
  have hn := next_in hr ht (c := c) (a := a) (by omega) ha1
  replace ha : Hid (G = if nextD d a c < 0 then -1 else runD d (nextD d a c) (w.drop (j + 1))) := ha
  by_cases hc : c < 0 ∨ 16 ≤ c
  · have : G = -1 := by rw [show G = _ from ha, if_pos (by unfold nextD; rw [if_pos hc]; decide)]
    subst this
    clear ha hn
    rcases hc with hc | hc
    · repeat' (first | refine wz1 ?_ | refine wz2 ?_ | refine wz3 ?_ | refine wz4 ?_ | refine wz5 ?_ | refine wz6 ?_ | simp -dsimp (maxSteps:=999999) (disch:=omega) only[go_sem,simprocAttr, *] | ((first | refine wz8 (fun hh => ?_) (fun hh => ?_) | refine wz9 (fun hh => ?_) (fun hh => ?_) | refine wz7 (fun hh => ?_) (fun hh => ?_)) <;> (try replace hh := vqs hh) <;> (try (exfalso; first | exact hh | omega))))
    · repeat' (first | refine wz1 ?_ | refine wz2 ?_ | refine wz3 ?_ | refine wz4 ?_ | refine wz5 ?_ | refine wz6 ?_ | simp -dsimp (maxSteps:=999999) (disch:=omega) only[go_sem,simprocAttr, *] | ((first | refine wz8 (fun hh => ?_) (fun hh => ?_) | refine wz9 (fun hh => ?_) (fun hh => ?_) | refine wz7 (fun hh => ?_) (fun hh => ?_)) <;> (try replace hh := vqs hh) <;> (try (exfalso; first | exact hh | omega))))
  have hba : a.toNat < d.next.length := by omega
  have hrow := row_get hba
  have hlen := ht _ (List.getElem_mem hba)
  have hz : nextD d a c = d.next[a.toNat].getD c.toNat 0 := by unfold nextD; rw [if_neg hc]; simp [List.getD, hba]
  rw [hz] at hn
  replace ha : Hid (G = if d.next[a.toNat].getD c.toNat 0 < 0 then -1 else runD d (d.next[a.toNat].getD c.toNat 0) (w.drop (j + 1))) := by rw [← hz]; exact ha
  clear hz
  generalize d.next[a.toNat] = row at hrow hlen hn ha
  have hil : c.toNat < row.length := by omega
  have hcell2 : (row.map (D.int .i64))[c.toNat * 1]? = some (.int .i64 row[c.toNat]) := by simp [hil]
  have hg : row.getD c.toNat 0 = row[c.toNat] := by simp [List.getD, hil]
  rw [hg] at ha hn
  generalize row[c.toNat] = t at hcell2 ha hn
  clear hg
  have hc1 : 0 ≤ c := by omega
  have hc2 : c < 16 := by omega
  clear hc
  have b1 := row_noTup row
  have b2 := row_cells row
  have b3 := row_aggQ row
  repeat' (first | refine wz1 ?_ | refine wz2 ?_ | refine wz3 ?_ | refine wz4 ?_ | refine wz5 ?_ | refine wz6 ?_ | simp -dsimp (maxSteps:=999999) (disch:=omega) only[go_sem,simprocAttr, *] | ((first | refine wz8 (fun hh => ?_) (fun hh => ?_) | refine wz9 (fun hh => ?_) (fun hh => ?_) | refine wz7 (fun hh => ?_) (fun hh => ?_)) <;> (try replace hh := vqs hh) <;> (try (exfalso; first | exact hh | omega))))
  refine wpB_regionXL (prs := []) (by kernel_rfl) rfl (by kernel_rfl) ?_; simp -dsimp (maxSteps:=999999) (disch:=omega) only[go_sem,simprocAttr, *,rowD]
  repeat' (first | refine wz1 ?_ | refine wz2 ?_ | refine wz3 ?_ | refine wz4 ?_ | refine wz5 ?_ | refine wz6 ?_ | simp -dsimp (maxSteps:=999999) (disch:=omega) only[go_sem,simprocAttr, *] | ((first | refine wz8 (fun hh => ?_) (fun hh => ?_) | refine wz9 (fun hh => ?_) (fun hh => ?_) | refine wz7 (fun hh => ?_) (fun hh => ?_)) <;> (try replace hh := vqs hh) <;> (try (exfalso; first | exact hh | omega))))
  refine hR _ _ ⟨j + 1, t, by omega, gs, gs, gs, gs, gs, by omega, by omega, ?_⟩ ?_
  · rw [show G = _ from ha]
    by_cases h : t < 0
    · rw [if_pos h, if_pos h]; omega
    · rw [if_neg h, if_neg h]
  · simp -dsimp (maxSteps:=999999) (disch:=omega) only[go_sem,simprocAttr, *,natOf_int]
/-- is it a match? -/
def goodD (d : Dfa) (a : Int) (w : List Int) : Bool := decide (0 ≤ runD d a w) && decide (0 ≤ ruleAt d (runD d a w))
/-- the longest beginning that is one, of so many at most -/
def refL (d : Dfa) (u : List Int) : Nat → Option Nat
  | 0 => none
  | m + 1 => if goodD d 0 (u.take (m + 1)) then some (m + 1) else refL d u m
def refP (d : Dfa) (u : List Int) (f : Int) : Option Nat → Int × Int
  | none => (-1, -1)
  | some m => (f + m, ruleAt d (runD d 0 (u.take m)))
theorem rlong_ok (d : Dfa) (w : List Int) (f : Int) (ht : tyM d) (hr : rightD d = true) (hw : w.length ≤ 1000000) : PureF Tryd.prog A 13 [dfaD d, isD w, .int .i64 f] (pairD (if f < 0 then (-1, -1) else refP d (w.drop f.toNat) f (refL d (w.drop f.toNat) (w.drop f.toNat).length))) := by
  have a1 := dfa_noTup d
  have a2 := dfa_cells d
  have a3 := dfa_aggQ d
  have hl := right_len hr
  have ew : isD w = .sl false (w.map (.int .i64)) := rfl
  refine evF_inB (n := 41) (rs := [.tmp 6, .tmp 7]) Tryd.func13 rfl rfl rfl rfl rfl rfl ?_
  by_cases hf : f < 0
  · rw [if_pos hf]
    repeat' (first | refine wz1 ?_ | refine wz2 ?_ | refine wz3 ?_ | refine wz4 ?_ | refine wz5 ?_ | refine wz6 ?_ | simp -dsimp (maxSteps:=999999) (disch:=omega) only[go_sem,simprocAttr, *,pairD] | ((first | refine wz8 (fun hh => ?_) (fun hh => ?_) | refine wz9 (fun hh => ?_) (fun hh => ?_) | refine wpB_cond (by simp -dsimp (maxSteps:=999999) (disch:=omega) only[go_sem,simprocAttr, *,pairD]; exact rfl) (fun hh => ?_) (fun hh => ?_)) <;> (try replace hh := vqs hh) <;> (try (exfalso; first | exact hh | omega))))
    rfl
  rw [if_neg hf]
  have hwl : (w.drop f.toNat).length = w.length - f.toNat := List.length_drop
  generalize hu : w.drop f.toNat = u at hwl
  have hw1 : u.length ≤ w.length - f.toNat := by omega
  have hw2 : w.length - f.toNat ≤ u.length := by omega
  clear hwl
  generalize hG : refP d u f (refL d u u.length) = G
  replace hG : Hid (G = refP d u f (refL d u u.length)) := hG.symm
  repeat' (first | refine wz1 ?_ | refine wz2 ?_ | refine wz3 ?_ | refine wz4 ?_ | refine wz5 ?_ | refine wz6 ?_ | simp -dsimp (maxSteps:=999999) (disch:=omega) only[go_sem,simprocAttr, *] | ((first | refine wz8 (fun hh => ?_) (fun hh => ?_) | refine wz9 (fun hh => ?_) (fun hh => ?_) | refine wz7 (fun hh => ?_) (fun hh => ?_)) <;> (try replace hh := vqs hh) <;> (try (exfalso; first | exact hh | omega))))
  refine wpB_loop (fun e H => ∃ (m : Nat) (n : Int), m ≤ u.length ∧ (n = f + m ∨ m = 0 ∧ n ≤ f ∧ 0 ≤ n) ∧ hget H 0 = .arr [dfaD d] ∧ e 1 = isD w ∧ e 2 = .int .i64 f ∧ e 3 = .ptr 0 0 0 ∧ e 8 = .int .i64 n ∧ G = refP d u f (refL d u m)) (fun e H => natOf (e 8)) ?_ ?_
  · exact ⟨u.length, w.length, by omega, by omega, rfl, gs, gs, gs, gs, hG⟩
  clear hG
  rintro e H ⟨m, n, hm, hn, h0, e1, e2, e3, e8, ha⟩ R hR
  by_cases hb : m = 0
  · subst hb
    have : G = (-1, -1) := ha
    subst this
    clear ha
    have hn2 : n ≤ f := by omega
    clear hn
    repeat' (first | refine wz1 ?_ | refine wz2 ?_ | refine wz3 ?_ | refine wz4 ?_ | refine wz5 ?_ | refine wz6 ?_ | simp -dsimp (maxSteps:=999999) (disch:=omega) only[go_sem,simprocAttr, *,pairD] | ((first | refine wz8 (fun hh => ?_) (fun hh => ?_) | refine wz9 (fun hh => ?_) (fun hh => ?_) | refine wpB_cond (by simp -dsimp (maxSteps:=999999) (disch:=omega) only[go_sem,simprocAttr, *,pairD]; exact rfl) (fun hh => ?_) (fun hh => ?_)) <;> (try replace hh := vqs hh) <;> (try (exfalso; first | exact hh | omega))))
    rfl
  obtain ⟨m, rfl⟩ : ∃ x, m = x + 1 := ⟨m - 1, by omega⟩
  have hn2 : n = f + (m + 1 : Nat) := by omega
  clear hn
  subst hn2
  have hsl : List.drop f.toNat (List.take (f + ((m + 1 : Nat) : Int)).toNat (List.map (D.int .i64) w)) = (u.take (m + 1)).map (.int .i64) := by
    rw [← List.map_take, ← List.map_drop, List.drop_take, hu, show (f + ((m + 1 : Nat) : Int)).toNat - f.toNat = m + 1 by omega]
  have hhd := headInts w
  have hal : (f + ((m + 1 : Nat) : Int)).toNat ≤ w.length := by omega
  have hfl : f.toNat ≤ (f + ((m + 1 : Nat) : Int)).toNat := by omega
  have hfp : 0 ≤ f + ((m + 1 : Nat) : Int) := by omega
  have hfe : ¬ (f + ((m + 1 : Nat) : Int) ≤ f) := by omega
  have hrr := rrun_ok d (u.take (m + 1)) ht hr (by rw [List.length_take]; omega)
  have hst := stripDw d (u.take (m + 1))
  rw [show isD (u.take (m + 1)) = .sl false ((u.take (m + 1)).map (.int .i64)) from rfl] at hrr hst
  have hin := runD_in hr ht (w := u.take (m + 1)) (a := 0) (by omega) (by omega)
  have hg : goodD d 0 (u.take (m + 1)) = (decide (0 ≤ runD d 0 (u.take (m + 1))) && decide (0 ≤ ruleAt d (runD d 0 (u.take (m + 1))))) := rfl
  replace ha : Hid (G = if goodD d 0 (u.take (m + 1)) then (f + ((m + 1 : Nat) : Int), ruleAt d (runD d 0 (u.take (m + 1)))) else refP d u f (refL d u m)) := by
    show G = _
    rw [ha, refL]
    split <;> rfl
  rw [hg] at ha
  clear hg hu
  generalize u.take (m + 1) = v at hsl hrr hst hin ha
  generalize hN : f + ((m + 1 : Nat) : Int) = N at hsl hal hfl hfp hfe e8 ha
  have hN2 : f < N := by omega
  have hN3 : N ≤ 1000000 := by omega
  repeat' (first | refine wz1 ?_ | refine wz2 ?_ | refine wz3 ?_ | refine wz4 ?_ | refine wz5 ?_ | refine wz6 ?_ | simp -dsimp (maxSteps:=999999) (disch:=omega) only[go_sem,simprocAttr, *] | ((first | refine wz8 (fun hh => ?_) (fun hh => ?_) | refine wz9 (fun hh => ?_) (fun hh => ?_) | refine wz7 (fun hh => ?_) (fun hh => ?_)) <;> (try replace hh := vqs hh) <;> (try (exfalso; first | exact hh | omega))))
  refine wpB_regionXL (prs := []) (by kernel_rfl) rfl (by kernel_rfl) ?_; simp -dsimp (maxSteps:=999999) (disch:=omega) only[go_sem,simprocAttr, *]
  refine ⟨?_, evB_plain bo12 rfl rfl hst hrr ?_⟩
  · exact fun _ => rfl
  generalize runD d 0 v = a at hrr hin ha
  clear hrr hst hsl
  by_cases hc : a < 0
  · have : G = refP d u f (refL d u m) := by rw [show G = _ from ha]; simp; omega
    clear ha
    repeat' (first | refine wz1 ?_ | refine wz2 ?_ | refine wz3 ?_ | refine wz4 ?_ | refine wz5 ?_ | refine wz6 ?_ | simp -dsimp (maxSteps:=999999) (disch:=omega) only[go_sem,simprocAttr, *] | ((first | refine wz8 (fun hh => ?_) (fun hh => ?_) | refine wz9 (fun hh => ?_) (fun hh => ?_) | refine wz7 (fun hh => ?_) (fun hh => ?_)) <;> (try replace hh := vqs hh) <;> (try (exfalso; first | exact hh | omega))))
    refine hR _ _ ⟨m, N - 1, by omega, by omega, gs, gs, gs, gs, gs, this⟩ ?_
    simp -dsimp (maxSteps:=999999) (disch:=omega) only[go_sem,simprocAttr, *,natOf_int]
  have hcr := rule_cell (d := d) (a := a) (by omega) (by omega)
  generalize ruleAt d a = q at ha hcr
  repeat' (first | refine wz1 ?_ | refine wz2 ?_ | refine wz3 ?_ | refine wz4 ?_ | refine wz5 ?_ | refine wz6 ?_ | simp -dsimp (maxSteps:=999999) (disch:=omega) only[go_sem,simprocAttr, *] | ((first | refine wz8 (fun hh => ?_) (fun hh => ?_) | refine wz9 (fun hh => ?_) (fun hh => ?_) | refine wz7 (fun hh => ?_) (fun hh => ?_)) <;> (try replace hh := vqs hh) <;> (try (exfalso; first | exact hh | omega))))
  · refine wpB_regionXL (prs := []) (by kernel_rfl) rfl (by kernel_rfl) ?_; simp -dsimp (maxSteps:=999999) (disch:=omega) only[go_sem,simprocAttr, *,pairD]
    have : G = (N, q) := by rw [show G = _ from ha]; simp; omega
    subst this
    repeat' (first | refine wz1 ?_ | refine wz2 ?_ | refine wz3 ?_ | refine wz4 ?_ | refine wz5 ?_ | refine wz6 ?_ | simp -dsimp (maxSteps:=999999) (disch:=omega) only[go_sem,simprocAttr, *] | ((first | refine wz8 (fun hh => ?_) (fun hh => ?_) | refine wz9 (fun hh => ?_) (fun hh => ?_) | refine wz7 (fun hh => ?_) (fun hh => ?_)) <;> (try replace hh := vqs hh) <;> (try (exfalso; first | exact hh | omega))))
    rfl
  · have : G = refP d u f (refL d u m) := by rw [show G = _ from ha]; simp; omega
    clear ha
    repeat' (first | refine wz1 ?_ | refine wz2 ?_ | refine wz3 ?_ | refine wz4 ?_ | refine wz5 ?_ | refine wz6 ?_ | simp -dsimp (maxSteps:=999999) (disch:=omega) only[go_sem,simprocAttr, *] | ((first | refine wz8 (fun hh => ?_) (fun hh => ?_) | refine wz9 (fun hh => ?_) (fun hh => ?_) | refine wz7 (fun hh => ?_) (fun hh => ?_)) <;> (try replace hh := vqs hh) <;> (try (exfalso; first | exact hh | omega))))
    refine hR _ _ ⟨m, N - 1, by omega, by omega, gs, gs, gs, gs, gs, this⟩ ?_
    simp -dsimp (maxSteps:=999999) (disch:=omega) only[go_sem,simprocAttr, *,natOf_int]
end Go.Proofs.W
end
/- The longest match, in two ways; beginnings of words. -/
section
set_option maxHeartbeats 4000000
set_option linter.unusedVariables false
set_option linter.unusedSimpArgs false
namespace Go.Proofs.W
open Go Vm Go.Proofs.Zs07

def refA (d : Dfa) (a : Int) (u : List Int) : Nat → Option Nat
  | 0 => none
  | m + 1 => if goodD d a (u.take (m + 1)) then some (m + 1) else refA d a u m
theorem refL_eq (d : Dfa) (u : List Int) : ∀ m, refL d u m = refA d 0 u m
  | 0 => rfl
  | m + 1 => by simp only [refL, refA, refL_eq d u m]
theorem good_neg {d : Dfa} {a c : Int} {v : List Int} (h : nextD d a c < 0) : goodD d a (c :: v) = false := by
  unfold goodD
  rw [runD, if_pos h]; rfl
theorem good_pos {d : Dfa} {a c : Int} {v : List Int} (h : ¬ nextD d a c < 0) : goodD d a (c :: v) = goodD d (nextD d a c) v := by
  unfold goodD
  rw [runD, if_neg h]
theorem refA_neg {d : Dfa} {a c : Int} {w : List Int} (h : nextD d a c < 0) : ∀ m, refA d a (c :: w) m = none
  | 0 => rfl
  | m + 1 => by
    rw [refA, List.take_succ_cons, good_neg h]
    exact refA_neg h m
theorem refA_pos {d : Dfa} {a c : Int} {w : List Int} (h : ¬ nextD d a c < 0) : ∀ m, refA d a (c :: w) (m + 1) = match refA d (nextD d a c) w m with
    | some k => some (k + 1)
    | none => if goodD d (nextD d a c) [] then some 1 else none
  | 0 => by
    show (if goodD d a [c] then some 1 else none) = _
    rw [good_pos h]
    rfl
  | m + 1 => by
    rw [refA, List.take_succ_cons, good_pos h, refA_pos h m]
    conv => rhs; rw [refA]
    cases goodD d (nextD d a c) (w.take (m + 1)) <;> simp
theorem lg_ref (d : Dfa) : ∀ (u : List Int) (a p : Int) (er : Int × Int), 0 ≤ a → lgD d a p u er = match refA d a u u.length with
    | none => er
    | some m => (p + m, ruleAt d (runD d a (u.take m)))
  | [], a, p, er, h => rfl
  | c :: w, a, p, er, h => by
    rw [lgD]
    by_cases ht : nextD d a c < 0
    · rw [if_pos ht, refA_neg ht]
    · rw [if_neg ht, lg_ref d w _ _ _ (by omega), List.length_cons, refA_pos ht]
      cases hk : refA d (nextD d a c) w w.length with
      | none =>
        simp only
        have hg : goodD d (nextD d a c) [] = (decide (0 ≤ nextD d a c) && decide (0 ≤ ruleAt d (nextD d a c))) := rfl
        rw [hg]
        by_cases hq : 0 ≤ ruleAt d (nextD d a c)
        · have : (decide (0 ≤ nextD d a c) && decide (0 ≤ ruleAt d (nextD d a c))) = true := by simp; omega
          rw [if_pos hq, if_pos this]
          simp only [List.take_succ_cons, List.take_zero, runD, if_neg ht]
          rfl
        · have : ¬ (decide (0 ≤ nextD d a c) && decide (0 ≤ ruleAt d (nextD d a c))) = true := by simp; omega
          rw [if_neg hq, if_neg this]
      | some k =>
        simp only [List.take_succ_cons, runD, if_neg ht]
        congr 1
        omega
theorem long_ref {d : Dfa} (hr : rightD d = true) (w : List Int) (f : Int) : (if f < 0 then (-1, -1) else refP d (w.drop f.toNat) f (refL d (w.drop f.toNat) (w.drop f.toNat).length)) = longD d w f := by
  unfold longD
  by_cases h0 : f < 0
  · rw [if_pos h0, if_neg (by omega)]
  rw [if_neg h0, refL_eq]
  by_cases h1 : f ≤ w.length
  · rw [if_pos ⟨hr, by omega, h1⟩, lg_ref _ _ _ _ _ (by omega)]
    cases refA d 0 (w.drop f.toNat) (w.drop f.toNat).length <;> rfl
  · rw [if_neg (by omega), List.drop_eq_nil_of_le (by omega)]
    rfl
theorem run_take {d : Dfa} : ∀ {w : List Int} {a : Int} (k : Nat), 0 ≤ a → runD d a (w.take k) < 0 → runD d a w < 0
  | [], a, k, h0, h => by simpa using h
  | c :: w, a, 0, h0, h => by simp [runD] at h; omega
  | c :: w, a, k + 1, h0, h => by
    rw [List.take_succ_cons, runD] at h
    rw [runD]
    by_cases hc : nextD d a c < 0
    · rw [if_pos hc]; decide
    · rw [if_neg hc] at h ⊢
      exact run_take k (by omega) h
theorem lg_ge {d : Dfa} : ∀ {w : List Int} {a p : Int} {er : Int × Int}, er.1 ≤ p → er.1 ≤ (lgD d a p w er).1 ∧ (lgD d a p w er).1 ≤ p + w.length
  | [], a, p, er, h => by simp [lgD]; omega
  | c :: w, a, p, er, h => by
    rw [lgD]
    split
    · simp; omega
    · have := lg_ge (d := d) (w := w) (a := nextD d a c) (p := p + 1) (er := if 0 ≤ ruleAt d (nextD d a c) then (p + 1, ruleAt d (nextD d a c)) else er) (by split <;> (try simp) <;> omega)
      have h2 : er.1 ≤ (if 0 ≤ ruleAt d (nextD d a c) then (p + 1, ruleAt d (nextD d a c)) else er).1 := by split <;> (try simp) <;> omega
      simp only [List.length_cons]
      omega
theorem lg_take {d : Dfa} : ∀ {w : List Int} {a p : Int} {er : Int × Int} (k : Nat), er.1 ≤ p → (lgD d a p (w.take k) er).1 ≤ (lgD d a p w er).1
  | [], a, p, er, k, h => by simp
  | c :: w, a, p, er, 0, h => by rw [List.take_zero, show lgD d a p [] er = er from rfl]; exact (lg_ge h).1
  | c :: w, a, p, er, k + 1, h => by
    rw [List.take_succ_cons, lgD, lgD]
    split
    · exact Int.le_refl _
    · exact lg_take k (by split <;> (try simp) <;> omega)
theorem long0 {d : Dfa} (hr : rightD d = true) (w : List Int) : longD d w 0 = lgD d 0 0 w (-1, -1) := by
  unfold longD
  rw [if_pos ⟨hr, by omega, by omega⟩]
  simp
theorem long_le (d : Dfa) (w : List Int) (k : Nat) (hk : k ≤ w.length) : (longD d (w.take k) 0).1 ≤ (longD d w 0).1 ∧ (longD d (w.take k) 0).1 ≤ k := by
  cases hr : rightD d with
  | false => simp only [longD, hr]; simp <;> omega
  | true =>
    rw [long0 hr, long0 hr]
    refine ⟨lg_take k (by simp), ?_⟩
    have := (lg_ge (d := d) (w := w.take k) (a := 0) (p := 0) (er := (-1, -1)) (by simp)).2
    rw [List.length_take] at this
    omega
end Go.Proofs.W
end
/- Words: the state behind one, its rule. -/
section
set_option maxHeartbeats 4000000
set_option linter.unusedVariables false
set_option linter.unusedSimpArgs false
namespace Go.Proofs.W
open Go Vm Go.Proofs.Zs07

theorem drun_ok (d : Dfa) (w : List Int) (ht : tyM d) (hs : d.next.length ≤ 1000000) (hs2 : d.rule.length ≤ 9223372036854775807) (hw : w.length ≤ 1000000) : PureF Tryd.prog A 10 [dfaD d, isD w] (.int .i64 (if rightD d then runD d 0 w else -1)) := by
  have a1 := dfa_noTup d
  have a2 := dfa_cells d
  have a3 := dfa_aggQ d
  have ew : isD w = .sl false (w.map (.int .i64)) := rfl
  refine evF_inB (n := 25) (rs := [.tmp 4]) Tryd.func10 rfl rfl rfl rfl rfl rfl ?_
  repeat' (first | refine wz1 ?_ | refine wz2 ?_ | refine wz3 ?_ | refine wz4 ?_ | refine wz5 ?_ | refine wz6 ?_ | simp -dsimp (maxSteps:=999999) (disch:=omega) only[go_sem,simprocAttr, *] | ((first | refine wz8 (fun hh => ?_) (fun hh => ?_) | refine wz9 (fun hh => ?_) (fun hh => ?_) | refine wz7 (fun hh => ?_) (fun hh => ?_)) <;> (try replace hh := vqs hh) <;> (try (exfalso; first | exact hh | omega))))
  refine evB_plain bo9 rfl rfl (stripD d) (dright_ok d ht hs hs2) ?_
  cases hr : rightD d with
  | false => repeat' (first | refine wz1 ?_ | refine wz2 ?_ | refine wz3 ?_ | refine wz4 ?_ | refine wz5 ?_ | refine wz6 ?_ | simp -dsimp (maxSteps:=999999) (disch:=omega) only[go_sem,simprocAttr, *] | ((first | refine wz8 (fun hh => ?_) (fun hh => ?_) | refine wz9 (fun hh => ?_) (fun hh => ?_) | refine wz7 (fun hh => ?_) (fun hh => ?_)) <;> (try replace hh := vqs hh) <;> (try (exfalso; first | exact hh | omega))))
  | true =>
    have hl := right_len hr
    have hz : (if true = true then runD d 0 w else -1) = runD d 0 (w.drop 0) := rfl
    rw [hz]
    generalize hG : runD d 0 (w.drop 0) = G
    replace hG : Hid (G = runD d 0 (w.drop 0)) := hG.symm
    clear hz
    repeat' (first | refine wz1 ?_ | refine wz2 ?_ | refine wz3 ?_ | refine wz4 ?_ | refine wz5 ?_ | refine wz6 ?_ | simp -dsimp (maxSteps:=999999) (disch:=omega) only[go_sem,simprocAttr, *] | ((first | refine wz8 (fun hh => ?_) (fun hh => ?_) | refine wz9 (fun hh => ?_) (fun hh => ?_) | refine wz7 (fun hh => ?_) (fun hh => ?_)) <;> (try replace hh := vqs hh) <;> (try (exfalso; first | exact hh | omega))))
    refine wpB_loop (fun e H => ∃ (j : Nat) (a : Int), j ≤ w.length ∧ hget H 0 = .arr [dfaD d] ∧ e 2 = .ptr 0 0 0 ∧ e 5 = .int .i64 a ∧ e 11 = isD w ∧ e 12 = .int .i64 w.length ∧ e 13 = .int .i64 j ∧ 0 ≤ a ∧ a < d.next.length ∧ G = runD d a (w.drop j)) (fun e H => w.length - natOf (e 13)) ?_ ?_
    · exact ⟨0, 0, by omega, rfl, gs, gs, gs, gs, gs, by omega, by omega, hG⟩
    clear hG
    rintro e H ⟨j, a, hj, h0, e2, e5, e11, e12, e13, ha0, ha1, ha⟩ R hR
    by_cases hb : j < w.length
    case neg =>
      rw [List.drop_eq_nil_of_le (by omega)] at ha
      have : G = a := ha
      subst this
      clear ha
      repeat' (first | refine wz1 ?_ | refine wz2 ?_ | refine wz3 ?_ | refine wz4 ?_ | refine wz5 ?_ | refine wz6 ?_ | simp -dsimp (maxSteps:=999999) (disch:=omega) only[go_sem,simprocAttr, *] | ((first | refine wz8 (fun hh => ?_) (fun hh => ?_) | refine wz9 (fun hh => ?_) (fun hh => ?_) | refine wz7 (fun hh => ?_) (fun hh => ?_)) <;> (try replace hh := vqs hh) <;> (try (exfalso; first | exact hh | omega))))
    have hd : w.drop j = w[j] :: w.drop (j + 1) := List.drop_eq_getElem_cons hb
    rw [hd, runD] at ha
    have hcell : (w.map (D.int .i64))[j]? = some (.int .i64 w[j]) := by simp [hb]
    generalize w[j] = c at ha hcell
    have hn := next_in hr ht (c := c) ha0 ha1
    replace ha : Hid (G = if nextD d a c < 0 then -1 else runD d (nextD d a c) (w.drop (j + 1))) := ha
    repeat' (first | refine wz1 ?_ | refine wz2 ?_ | refine wz3 ?_ | refine wz4 ?_ | refine wz5 ?_ | refine wz6 ?_ | simp -dsimp (maxSteps:=999999) (disch:=omega) only[go_sem,simprocAttr, *] | ((first | refine wz8 (fun hh => ?_) (fun hh => ?_) | refine wz9 (fun hh => ?_) (fun hh => ?_) | refine wz7 (fun hh => ?_) (fun hh => ?_)) <;> (try replace hh := vqs hh) <;> (try (exfalso; first | exact hh | omega))))
    refine evB_plain bo18 rfl rfl (stripDii d a c) (dnext_ok d a c ht ha0 ha1 hs) ?_
    generalize nextD d a c = t at ha hn
    repeat' (first | refine wz1 ?_ | refine wz2 ?_ | refine wz3 ?_ | refine wz4 ?_ | refine wz5 ?_ | refine wz6 ?_ | simp -dsimp (maxSteps:=999999) (disch:=omega) only[go_sem,simprocAttr, *] | ((first | refine wz8 (fun hh => ?_) (fun hh => ?_) | refine wz9 (fun hh => ?_) (fun hh => ?_) | refine wz7 (fun hh => ?_) (fun hh => ?_)) <;> (try replace hh := vqs hh) <;> (try (exfalso; first | exact hh | omega))))
    · have : G = -1 := by rw [show G = _ from ha, if_pos (by assumption)]
      rw [this]
    · refine hR _ _ ⟨j + 1, t, by omega, gs, gs, gs, gs, gs, gs, by omega, by omega, ?_⟩ ?_
      · rw [show G = _ from ha, if_neg (by omega)]
      · simp -dsimp (maxSteps:=999999) (disch:=omega) only[go_sem,simprocAttr, *,natOf_int]
def matchD (d : Dfa) (w : List Int) : Int := if rightD d then (if runD d 0 w < 0 then -1 else ruleAt d (runD d 0 w)) else -1
theorem dmatch_ok (d : Dfa) (w : List Int) (ht : tyM d) (hs : d.next.length ≤ 1000000) (hs2 : d.rule.length ≤ 9223372036854775807) (hw : w.length ≤ 1000000) : PureF Tryd.prog A 11 [dfaD d, isD w] (.int .i64 (matchD d w)) := by
  have a1 := dfa_noTup d
  have a2 := dfa_cells d
  have a3 := dfa_aggQ d
  refine evF_inB (n := 16) (rs := [.tmp 4]) Tryd.func11 rfl rfl rfl rfl rfl rfl ?_
  repeat' (first | refine wz1 ?_ | refine wz2 ?_ | refine wz3 ?_ | refine wz4 ?_ | refine wz5 ?_ | refine wz6 ?_ | simp -dsimp (maxSteps:=999999) (disch:=omega) only[go_sem,simprocAttr, *] | ((first | refine wz8 (fun hh => ?_) (fun hh => ?_) | refine wz9 (fun hh => ?_) (fun hh => ?_) | refine wz7 (fun hh => ?_) (fun hh => ?_)) <;> (try replace hh := vqs hh) <;> (try (exfalso; first | exact hh | omega))))
  refine evB_plain bo10 rfl rfl (stripDw d w) (drun_ok d w ht hs hs2 hw) ?_
  unfold matchD
  cases hr : rightD d with
  | false => repeat' (first | refine wz1 ?_ | refine wz2 ?_ | refine wz3 ?_ | refine wz4 ?_ | refine wz5 ?_ | refine wz6 ?_ | simp -dsimp (maxSteps:=999999) (disch:=omega) only[go_sem,simprocAttr, *] | ((first | refine wz8 (fun hh => ?_) (fun hh => ?_) | refine wz9 (fun hh => ?_) (fun hh => ?_) | refine wz7 (fun hh => ?_) (fun hh => ?_)) <;> (try replace hh := vqs hh) <;> (try (exfalso; first | exact hh | omega))))
  | true =>
    have hl := right_len hr
    have hin := runD_in hr ht (w := w) (a := 0) (by omega) (by omega)
    rw [if_pos rfl, if_pos rfl]
    generalize runD d 0 w = a at hin
    by_cases hc : a < 0
    · rw [if_pos hc]
      repeat' (first | refine wz1 ?_ | refine wz2 ?_ | refine wz3 ?_ | refine wz4 ?_ | refine wz5 ?_ | refine wz6 ?_ | simp -dsimp (maxSteps:=999999) (disch:=omega) only[go_sem,simprocAttr, *] | ((first | refine wz8 (fun hh => ?_) (fun hh => ?_) | refine wz9 (fun hh => ?_) (fun hh => ?_) | refine wz7 (fun hh => ?_) (fun hh => ?_)) <;> (try replace hh := vqs hh) <;> (try (exfalso; first | exact hh | omega))))
    · rw [if_neg hc]
      have hcell := rule_cell (d := d) (a := a) (by omega) (by omega)
      repeat' (first | refine wz1 ?_ | refine wz2 ?_ | refine wz3 ?_ | refine wz4 ?_ | refine wz5 ?_ | refine wz6 ?_ | simp -dsimp (maxSteps:=999999) (disch:=omega) only[go_sem,simprocAttr, *] | ((first | refine wz8 (fun hh => ?_) (fun hh => ?_) | refine wz9 (fun hh => ?_) (fun hh => ?_) | refine wz7 (fun hh => ?_) (fun hh => ?_)) <;> (try replace hh := vqs hh) <;> (try (exfalso; first | exact hh | omega))))
end Go.Proofs.W
end
/- Machines without free steps, made of such with: what is made, in plain terms. -/
section
set_option maxHeartbeats 4000000
set_option linter.unusedVariables false
set_option linter.unusedSimpArgs false
namespace Go.Proofs.W
open Go Vm Go.Proofs.Zs07

/-- where a set leads by a category -/
noncomputable def leadN (n : Nfa) (c : Int) (s : List Int) : List Int := clos n (stp n c s)
/-- a row, so far, and the sets then -/
noncomputable def rowTo (n : Nfa) (s : List Int) (ls : List (List Int)) : Nat → List Int × List (List Int)
  | 0 => ([], ls)
  | c + 1 => ((rowTo n s ls c).1 ++ [(addS (rowTo n s ls c).2 (leadN n c s)).1], (addS (rowTo n s ls c).2 (leadN n c s)).2)
noncomputable def runB (n : Nfa) : Nat → Nat → List (List Int) → List (List Int) → Option (List (List Int) × List (List Int))
  | 0, _, _, _ => none
  | k + 1, i, ls, nx => if i < ls.length then
      (if 200 < (rowTo n (ls.getD i []) ls 16).2.length then none else runB n k (i + 1) (rowTo n (ls.getD i []) ls 16).2 (nx ++ [(rowTo n (ls.getD i []) ls 16).1]))
    else some (ls, nx)
theorem clos_nil (n : Nfa) : clos n [] = [] := by
  rcases h : clos n [] with _ | ⟨x, l⟩
  · rfl
  · have hx : x ∈ clos n [] := by rw [h]; simp
    unfold clos at hx
    obtain ⟨i, h1, h2, h3⟩ := mem_listZ.1 hx
    rw [clo_iff] at h2
    exfalso
    clear h h3 hx h1
    induction h2 with
    | base h => simp [inS] at h
    | step _ _ ih => exact ih
theorem stp_nil (n : Nfa) (c : Int) : stp n c [] = [] := by
  rcases h : stp n c [] with _ | ⟨x, l⟩
  · rfl
  · have hx : x ∈ stp n c [] := by rw [h]; simp
    unfold stp at hx
    obtain ⟨i, h1, h2, h3⟩ := mem_listZ.1 hx
    simp [stepTo] at h2
theorem stp_out (n : Nfa) {c : Int} (s : List Int) (hc : c < 0 ∨ 16 ≤ c) : stp n c s = [] := by
  rcases h : stp n c s with _ | ⟨x, l⟩
  · rfl
  · have hx : x ∈ stp n c s := by rw [h]; simp
    unfold stp at hx
    obtain ⟨i, h1, h2, h3⟩ := mem_listZ.1 hx
    simp only [stepTo, List.any_eq_true, Bool.and_eq_true] at h2
    obtain ⟨y, -, ⟨-, h4⟩, -⟩ := h2
    simp only [hit, inB, Bool.and_eq_true, decide_eq_true_eq] at h4
    omega
theorem lead_nil (n : Nfa) (c : Int) : leadN n c [] = [] := by rw [leadN, stp_nil, clos_nil]
theorem lead_out (n : Nfa) {c : Int} (s : List Int) (hc : c < 0 ∨ 16 ≤ c) : leadN n c s = [] := by rw [leadN, stp_out n s hc, clos_nil]
/-- a set's number among sets -/
def Code (ls : List (List Int)) (x : Int) (s : List Int) : Prop := (s = [] ∧ x = -1) ∨ (s ≠ [] ∧ ∃ j : Nat, x = j ∧ ls[j]? = some s)
theorem code_add (ls : List (List Int)) (l : List Int) : Code (addS ls l).2 (addS ls l).1 l := by
  by_cases h : l = []
  · exact .inl ⟨h, by simp [addS, h]⟩
  · exact .inr ⟨h, addS_at h⟩
theorem Code.old {ls : List (List Int)} {x : Int} {s : List Int} (h : Code ls x s) {ls' : List (List Int)} (k : ∀ (j : Nat) q, ls[j]? = some q → ls'[j]? = some q) : Code ls' x s := by
  rcases h with h | ⟨h1, j, h2, h3⟩
  · exact .inl h
  · exact .inr ⟨h1, j, h2, k j s h3⟩
theorem Code.rng {ls : List (List Int)} {x : Int} {s : List Int} (h : Code ls x s) : -1 ≤ x ∧ x < ls.length := by
  rcases h with ⟨_, rfl⟩ | ⟨_, j, rfl, h3⟩
  · omega
  · have := (List.getElem?_eq_some_iff.1 h3).1
    omega
theorem addS_mem {ls : List (List Int)} {l q : List Int} (h : q ∈ (addS ls l).2) : q ∈ ls ∨ (q = l ∧ l ≠ []) := by
  unfold addS at h
  split at h
  · exact .inl h
  · rename_i hl
    split at h
    · exact .inl h
    · rcases List.mem_append.1 h with h | h
      · exact .inl h
      · exact .inr ⟨by simpa using h, hl⟩
theorem addS_len (ls : List (List Int)) (l : List Int) : ls.length ≤ (addS ls l).2.length ∧ (addS ls l).2.length ≤ ls.length + 1 := by
  unfold addS
  split
  · simp
  · split <;> simp
/-- a set of a machine's states, closed, of which there are some -/
def GoodS (n : Nfa) (q : List Int) : Prop := q ≠ [] ∧ ∃ l, q = clos n l
theorem rowTo_old (n : Nfa) (s : List Int) (ls : List (List Int)) : ∀ (c j : Nat) (q : List Int), ls[j]? = some q → (rowTo n s ls c).2[j]? = some q
  | 0, j, q, h => h
  | c + 1, j, q, h => addS_old (rowTo_old n s ls c j q h)
theorem rowTo_len (n : Nfa) (s : List Int) (ls : List (List Int)) : ∀ c, (rowTo n s ls c).1.length = c ∧ ls.length ≤ (rowTo n s ls c).2.length ∧ (rowTo n s ls c).2.length ≤ ls.length + c
  | 0 => ⟨rfl, Nat.le_refl _, Nat.le_refl _⟩
  | c + 1 => by
    have ih := rowTo_len n s ls c
    have := addS_len (rowTo n s ls c).2 (leadN n c s)
    refine ⟨by simp [rowTo, ih.1], ?_, ?_⟩
    · simp only [rowTo]; omega
    · simp only [rowTo]; omega
theorem rowTo_good {n : Nfa} {s : List Int} {ls : List (List Int)} (h : ∀ q ∈ ls, GoodS n q) : ∀ c, ∀ q ∈ (rowTo n s ls c).2, GoodS n q
  | 0, q, hq => h q hq
  | c + 1, q, hq => by
    rcases addS_mem hq with h1 | ⟨rfl, h2⟩
    · exact rowTo_good h c q h1
    · exact ⟨h2, _, rfl⟩
theorem rowTo_code (n : Nfa) (s : List Int) (ls : List (List Int)) : ∀ (c k : Nat), k < c → Code (rowTo n s ls c).2 ((rowTo n s ls c).1.getD k 0) (leadN n k s)
  | 0, k, h => by omega
  | c + 1, k, h => by
    have hl := (rowTo_len n s ls c).1
    by_cases e : k = c
    · subst e
      have : (rowTo n s ls (k + 1)).1.getD k 0 = (addS (rowTo n s ls k).2 (leadN n k s)).1 := by
        simp only [rowTo, List.getD_eq_getElem?_getD]
        rw [List.getElem?_append_right (by omega), hl]; simp
      rw [this]
      exact code_add _ _
    · have : (rowTo n s ls (c + 1)).1.getD k 0 = (rowTo n s ls c).1.getD k 0 := by
        simp only [rowTo, List.getD_eq_getElem?_getD]
        rw [List.getElem?_append_left (by omega)]
      rw [this]
      exact (rowTo_code n s ls c k (by omega)).old fun j q hq => addS_old hq
structure DoneI (n : Nfa) (i : Nat) (ls nx : List (List Int)) : Prop where
  len : nx.length = i
  le : i ≤ ls.length
  good : ∀ q ∈ ls, GoodS n q
  z : ls[0]? = some (clos n [0])
  row : ∀ j, j < i → (nx.getD j []).length = 16 ∧ ∀ k : Nat, k < 16 → Code ls ((nx.getD j []).getD k 0) (leadN n k (ls.getD j []))
theorem DoneI.step {n : Nfa} {i : Nat} {ls nx : List (List Int)} (h : DoneI n i ls nx) (hi : i < ls.length) : DoneI n (i + 1) (rowTo n (ls.getD i []) ls 16).2 (nx ++ [(rowTo n (ls.getD i []) ls 16).1]) := by
  have hold := rowTo_old n (ls.getD i []) ls 16
  have hlen := rowTo_len n (ls.getD i []) ls 16
  have same : ∀ j, j < ls.length → (rowTo n (ls.getD i []) ls 16).2.getD j [] = ls.getD j [] := fun j hj => by
    have := hold j ls[j] (List.getElem?_eq_getElem hj)
    rw [List.getD_eq_getElem?_getD, this, List.getD_eq_getElem?_getD, List.getElem?_eq_getElem hj]
  refine ⟨by simp [h.len], by omega, rowTo_good h.good 16, hold _ _ h.z, fun j hj => ?_⟩
  by_cases e : j = i
  · subst e
    have e1 : (nx ++ [(rowTo n (ls.getD j []) ls 16).1]).getD j [] = (rowTo n (ls.getD j []) ls 16).1 := by
      simp only [List.getD_eq_getElem?_getD]
      rw [List.getElem?_append_right (by rw [h.len]; omega), h.len]; simp
    rw [e1, same j hi]
    exact ⟨hlen.1, fun k hk => rowTo_code _ _ _ 16 k hk⟩
  · have e1 : (nx ++ [(rowTo n (ls.getD i []) ls 16).1]).getD j [] = nx.getD j [] := by
      simp only [List.getD_eq_getElem?_getD]
      rw [List.getElem?_append_left (by rw [h.len]; omega)]
    rw [e1, same j (by omega)]
    obtain ⟨g1, g2⟩ := h.row j (by omega)
    exact ⟨g1, fun k hk => (g2 k hk).old hold⟩
theorem runB_done {n : Nfa} : ∀ (k i : Nat) (ls nx ls' nx' : List (List Int)), DoneI n i ls nx → ls.length ≤ 200 → runB n k i ls nx = some (ls', nx') → DoneI n ls'.length ls' nx' ∧ ls'.length ≤ 200
  | 0, i, ls, nx, ls', nx', h, hl, hr => by simp [runB] at hr
  | k + 1, i, ls, nx, ls', nx', h, hl, hr => by
    rw [runB] at hr
    split at hr
    · rename_i hi
      split at hr
      · cases hr
      · exact runB_done k (i + 1) _ _ ls' nx' (h.step hi) (by omega) hr
    · cases hr
      have : i = ls.length := by have := h.le; omega
      subst this
      exact ⟨h, hl⟩
theorem done_zero {n : Nfa} (h : clos n [0] ≠ []) : DoneI n 0 [clos n [0]] [] :=
  ⟨rfl, by simp, fun q hq => by rw [List.mem_singleton.1 hq]; exact ⟨h, _, rfl⟩, rfl, fun j hj => by omega⟩
theorem clos_zero {n : Nfa} (hk : 1 ≤ n.set.length) : clos n [0] ≠ [] := by
  intro h
  have : (0 : Int) ∈ clos n [0] := by
    unfold clos
    exact mem_listZ.2 ⟨0, by omega, clo_iff.2 (.base ⟨by omega, by simp⟩), rfl⟩
  rw [h] at this
  cases this
/-- the machine -/
def mkDfa (n : Nfa) (ls nx : List (List Int)) : Dfa := ⟨nx, ls.map (endsZ n)⟩
theorem endsZ_rng {n : Nfa} (hn : rightN n = true) {l : List Int} (hl : ∀ s ∈ l, 0 ≤ s ∧ s < n.set.length) : -1 ≤ endsZ n l ∧ endsZ n l < 16 := by
  obtain ⟨hk, hk2, hf, ht, hr, hrow⟩ := right_row hn
  have hall : ∀ r ∈ l.map (fun s => n.rule.getD s.toNat 0), r < 16 := fun r h => by
    obtain ⟨s, hs, rfl⟩ := List.mem_map.1 h
    have := hl s hs
    have := hrow s.toNat (by omega)
    simp only [rowOk, Bool.and_eq_true, decide_eq_true_eq] at this
    omega
  obtain ⟨h1, h2, h3, h4⟩ := bestFrom_spec (l.map fun s => n.rule.getD s.toNat 0) (-1) (by omega)
  refine ⟨h1, ?_⟩
  unfold endsZ
  rcases h4 with h4 | h4
  · omega
  · exact hall _ h4
theorem mk_right {n : Nfa} (hn : rightN n = true) {ls nx : List (List Int)} (h : DoneI n ls.length ls nx) (hl : ls.length ≤ 200) : rightD (mkDfa n ls nx) = true := by
  have h0 := (List.getElem?_eq_some_iff.1 h.z).1
  simp only [rightD, mkDfa, Bool.and_eq_true, decide_eq_true_eq, h.len, List.length_map, allN_iff]
  refine ⟨⟨by omega, hl, trivial⟩, fun i _ hi => ?_⟩
  have hi' : i < ls.length := by omega
  have e : (ls.map (endsZ n)).getD i 0 = endsZ n ls[i] := by simp [List.getD_eq_getElem?_getD, hi']
  obtain ⟨g1, l, g2⟩ := h.good ls[i] (List.getElem_mem hi')
  have hr := endsZ_rng hn (l := ls[i]) (fun s hs => clos_in (l := l) (by rw [← g2]; exact hs))
  simp only [rowOkD, e, Bool.and_eq_true, decide_eq_true_eq, List.all_eq_true, toOk]
  refine ⟨hr, fun x hx => ?_⟩
  obtain ⟨k1, k2⟩ := h.row i hi'
  obtain ⟨k, hk, rfl⟩ := List.mem_iff_getElem.1 hx
  have := (k2 k (by omega)).rng
  have e2 : (nx.getD i []).getD k 0 = (nx.getD i [])[k] := by rw [List.getD_eq_getElem?_getD, List.getElem?_eq_getElem hk]; rfl
  rw [e2, ← h.len] at this
  exact this
theorem mk_ty {n : Nfa} {ls nx : List (List Int)} (h : DoneI n ls.length ls nx) : tyM (mkDfa n ls nx) := fun r hr => by
  obtain ⟨j, hj, rfl⟩ := List.mem_iff_getElem.1 hr
  have hj' : j < nx.length := hj
  have := (h.row j (by rw [← h.len]; exact hj)).1
  rw [List.getD_eq_getElem?_getD, List.getElem?_eq_getElem hj'] at this
  exact this
theorem mk_next {n : Nfa} {ls nx : List (List Int)} (h : DoneI n ls.length ls nx) {j : Nat} {q : List Int} (hj : ls[j]? = some q) (c : Int) : Code ls (nextD (mkDfa n ls nx) j c) (leadN n c q) := by
  have hjl := (List.getElem?_eq_some_iff.1 hj).1
  unfold nextD
  split
  · rename_i hc
    rw [lead_out n q hc]; exact .inl ⟨rfl, rfl⟩
  · rename_i hc
    have := (h.row j hjl).2 c.toNat (by omega)
    rw [show ls.getD j [] = q by simp [List.getD_eq_getElem?_getD, hj], show ((c.toNat : Nat) : Int) = c by omega] at this
    simpa [mkDfa] using this
theorem mk_run {n : Nfa} {ls nx : List (List Int)} (h : DoneI n ls.length ls nx) : ∀ (w : List Int) (j : Nat) (q : List Int), ls[j]? = some q → q ≠ [] → Code ls (runD (mkDfa n ls nx) j w) (w.foldl (fun a c => leadN n c a) q)
  | [], j, q, hj, hq => .inr ⟨hq, j, rfl, hj⟩
  | c :: w, j, q, hj, hq => by
    rw [runD, List.foldl_cons]
    rcases mk_next h hj c with ⟨h1, h2⟩ | ⟨h1, m, h2, h3⟩
    · rw [h2, if_pos (by omega), h1]
      have : ∀ w : List Int, w.foldl (fun a c => leadN n c a) [] = [] := by
        intro w
        induction w with
        | nil => rfl
        | cons c w ih => rw [List.foldl_cons, lead_nil, ih]
      exact .inl ⟨this w, rfl⟩
    · rw [h2, if_neg (by omega)]
      exact mk_run h w m _ h3 h1
theorem mk_match {n : Nfa} (hn : rightN n = true) {ls nx : List (List Int)} (h : DoneI n ls.length ls nx) (hl : ls.length ≤ 200) (w : List Int) : matchD (mkDfa n ls nx) w = matchN n w := by
  have hq := (h.good _ (List.mem_of_getElem? h.z)).1
  have hrun := mk_run h w 0 _ h.z hq
  have e : w.foldl (fun a c => leadN n c a) (clos n [0]) = atN n w := rfl
  rw [e] at hrun
  unfold matchD matchN
  rw [if_pos (mk_right hn h hl), if_pos hn]
  rcases hrun with ⟨h1, h2⟩ | ⟨h1, m, h2, h3⟩
  · rw [show ((0 : Nat) : Int) = 0 from rfl] at h2
    rw [h2, if_pos (by omega), h1]; rfl
  · rw [show ((0 : Nat) : Int) = 0 from rfl] at h2
    rw [h2, if_neg (by omega)]
    simp [ruleAt, mkDfa, h3]
/-- the last of some beginnings that a rule has -/
def lastP (f : Nat → Int) : Nat → Int × Int
  | 0 => (-1, -1)
  | m + 1 => if 0 ≤ f (m + 1) then (((m + 1 : Nat) : Int), f (m + 1)) else lastP f m
theorem long_last {d : Dfa} (hr : rightD d = true) (ht : tyM d) (w : List Int) : longD d w 0 = lastP (fun m => matchD d (w.take m)) w.length := by
  have hl := right_len hr
  rw [long0 hr, lg_ref _ _ _ _ _ (by omega)]
  have key : ∀ m, (match refA d 0 w m with
      | none => (-1, -1)
      | some m => ((0 : Int) + (m : Int), ruleAt d (runD d 0 (w.take m)))) = lastP (fun m => matchD d (w.take m)) m := by
    intro m
    induction m with
    | zero => rfl
    | succ m ih =>
      rw [refA, lastP]
      have hin := runD_in hr ht (w := w.take (m + 1)) (a := 0) (by omega) (by omega)
      have hg : goodD d 0 (w.take (m + 1)) = decide (0 ≤ matchD d (w.take (m + 1))) := by
        unfold goodD matchD
        rw [if_pos hr]
        by_cases hc : runD d 0 (w.take (m + 1)) < 0
        · rw [if_pos hc]; simp; omega
        · rw [if_neg hc]; simp; omega
      rw [hg]
      by_cases hc : 0 ≤ matchD d (w.take (m + 1))
      · rw [if_pos hc]
        simp only [hc, decide_true, if_true]
        refine Prod.ext (by simp) ?_
        unfold matchD at hc ⊢
        rw [if_pos hr] at hc ⊢
        split at hc
        · omega
        · rename_i h1; rw [if_neg h1]
      · rw [if_neg hc]
        simp only [hc, decide_false, Bool.false_eq_true, if_false]
        exact ih
  exact key w.length
end Go.Proofs.W
end
/- A maker of machines without free steps: how it lies in memory; a set's number. -/
section
set_option maxHeartbeats 4000000
set_option linter.unusedVariables false
set_option linter.unusedSimpArgs false
namespace Go.Proofs.W
open Go Vm Go.Proofs.Zs07

/-- more behind a list of one's own -/
theorem vecAt_appendL {t e : TypeId} {n w m : Nat} {z d y : D} {H H1 : Heap} {xs ys : List D} (he : elemT Tryd.prog t = some e) (hn : sizeT Tryd.prog e = some n) (hw : bytesT Tryd.prog e = some w) (hz : zeroT Tryd.prog e = some z) (hzn : z.cells.length = n) (hw0 : w ≠ 0)
    (h : VecAt m d H xs) (hl : H.length ≤ H1.length) (hk : ∀ r, r < H.length → hget H1 r = hget H r) (hadd : addedD H1 y = some (ys, H1)) (hy : ys ≠ []) (hys : headSize n ys = true) (hx : headSize n xs = true) (hm : (xs.length + ys.length) * w ≤ 140737488355328) :
    ∃ d' H', appendD Tryd.prog t H1 d y = some (d', H') ∧ VecAt m d' H' (xs ++ ys) ∧ Same m H H' := by
  have hye : ys.isEmpty = false := by simpa using hy
  obtain ⟨h0, ⟨rfl, rfl⟩ | ⟨h1, r, h2, h4, rfl, h3⟩⟩ := h
  · refine ⟨.vec H1.length 0 (0 + ys.length), H1 ++ [Ob.arr ([] ++ ys)], ?_, ⟨by simp; omega, .inr ⟨by simpa using hy, H1.length, by omega, by simp, by simp, ?_⟩⟩, ⟨by simp; omega, fun k hk' => ?_⟩⟩
    · simp only [appendD, he, hn, hw, hz, Option.bind_some, hadd, hzn]
      have hm' : ys.length * w ≤ 140737488355328 := by simpa using hm
      have h0s : headSize n ([] : List D) = true := rfl
      simp [hw0, hys, hye, h0s, mostBytes, hm']
    · rw [hget_app0]; rfl
    · rw [hget_app_lt (by omega), hk k (by omega)]
  · have hg : hget H1 r = .arr xs := by rw [hk r h4, h3]
    have hne : xs.isEmpty = false := by simpa using h1
    refine ⟨.vec H1.length 0 (xs.length + ys.length), H1.set r Ob.dead ++ [Ob.arr (xs ++ ys)], ?_, ⟨by simp; omega, .inr ⟨by simp [h1], H1.length, by omega, by simp, by simp, ?_⟩⟩, ⟨by simp; omega, fun k hk' => ?_⟩⟩
    · simp only [appendD, he, hn, hw, hz, Option.bind_some, hadd, hzn]
      simp [hw0, hys, hye, hg, hx, hne, hm, mostBytes]
    · have := hget_app0 (H := H1.set r Ob.dead) (L := [Ob.arr (xs ++ ys)])
      rw [List.length_set] at this
      rw [this]; rfl
    · rw [hget_app_lt (by simp; omega), hget_set_ne (by omega), hk k (by omega)]
theorem add_two {H : Heap} {a b : D} (ha : strip a = some a) (hb : strip b = some b) : addedD (H ++ [.arr [a, b]]) (.vec H.length 0 2) = some ([a, b], H ++ [.arr [a, b]]) := by
  have : pures (H ++ [.arr [a, b]]) [a, b] = some ([a, b], H ++ [.arr [a, b]]) := pures_strip (by simp [stripL, ha, hb])
  simp [addedD, elems, hget_app0, hget_cons0, this, puresA, nilE_strip ha]
theorem vecAt_elems {m : Nat} {d : D} {H : Heap} {xs : List D} (h : VecAt m d H xs) : Vm.elems H d = some xs := by
  obtain ⟨h0, ⟨rfl, rfl⟩ | ⟨h1, r, h2, h4, rfl, h3⟩⟩ := h
  · rfl
  · simp [Vm.elems, h3]
theorem bytesBack_of (s : List UInt8) : bytesBack (bytesOf s) = some s := by
  induction s with
  | nil => rfl
  | cons b s ih =>
    simp only [bytesOf, List.map_cons, bytesBack] at ih ⊢
    rw [ih]
    simp
theorem headBytes (s : List UInt8) : headSize 1 (bytesOf s) = true := by cases s <;> rfl
theorem keyS_app (s : Int) : ∀ (l : List Int), keyS (l ++ [s]) = keyS l ++ [UInt8.ofNat (s.toNat / 256), UInt8.ofNat (s.toNat % 256)]
  | [] => rfl
  | x :: l => by simp only [List.cons_append, keyS, keyS_app s l]
theorem keyS_len : ∀ l : List Int, (keyS l).length = 2 * l.length
  | [] => rfl
  | x :: l => by simp only [keyS, List.length_cons, keyS_len l]; omega
theorem bytes_app (a b : List UInt8) : bytesOf (a ++ b) = bytesOf a ++ bytesOf b := by simp [bytesOf]
theorem bytes_len (a : List UInt8) : (bytesOf a).length = a.length := by simp [bytesOf]
theorem ruleL_ends (n : Nfa) : ∀ (l : List Int) (o : Int), (∀ s ∈ l, 0 ≤ s ∧ s < n.rule.length) → ruleL (n.rule.map (.int .i64)) (l.map (.int .i64)) o = some (bestFrom o (l.map fun s => n.rule.getD s.toNat 0))
  | [], o, h => rfl
  | s :: l, o, h => by
    have hs := h s (by simp)
    obtain ⟨t, ht1, ht2⟩ := ex_at (l := n.rule) (i := s.toNat) 0 (by omega)
    have ih := ruleL_ends n l
    simp only [List.map_cons, ruleL, hs.1, if_true, List.getElem?_map, ht1, Option.map_some, bestFrom_cons, ht2]
    exact ih _ fun x hx => h x (by simp [hx])
/-- a maker: its machine with free steps, rows, rules, the map, sets -/
abbrev dkL (M rm : Nat) (ds : List D) : List D := .ptr M 0 0 :: .map rm :: ds
structure DkAt (M rm : Nat) (n : Nfa) (nx ls : List (List Int)) (ds : List D) (H : Heap) : Prop where
  ms : Ms M ds [nx.map rowD, (ls.map (endsZ n)).map (.int .i64), ls.map isD] H
  hM : hget H M = .arr [.agg [.sl false (n.free.map isD), .sl false (n.set.map (.int .u16)), .sl false (n.to.map (.int .i64)), .sl false (n.rule.map (.int .i64)), ds.getD 0 ud, ds.getD 1 ud, .map rm, ds.getD 2 ud]]
  hm : hget H rm = .map (ents 0 ls)
  rM : rm ≠ M
  ro : ∀ i, rm ∉ objsD (ds.getD i ud)
  rl : rm < H.length
theorem DkAt.keep {M rm : Nat} {n : Nfa} {nx ls : List (List Int)} {ds : List D} {H H' : Heap} (h : DkAt M rm n nx ls ds H) (hl : H.length ≤ H'.length) (hk : ∀ r, own (dkL M rm ds) r → hget H' r = hget H r) : DkAt M rm n nx ls ds H' :=
  ⟨⟨fun i hi => vec_keep (h.ms.v i hi) hl fun r hr => hk r ⟨i + 2, by simpa using hr⟩, h.ms.lenX, h.ms.ap, by have := h.ms.m; omega⟩, by rw [hk M ⟨0, by simp [objsD]⟩]; exact h.hM, by rw [hk rm ⟨1, by simp [objsD]⟩]; exact h.hm, h.rM, h.ro, by have := h.rl; omega⟩
theorem DkAt.lt {M rm : Nat} {n : Nfa} {nx ls : List (List Int)} {ds : List D} {H : Heap} (h : DkAt M rm n nx ls ds H) {r : Nat} (hr : own (dkL M rm ds) r) : r < H.length := by
  obtain ⟨k, hk⟩ := hr
  match k, hk with
  | 0, hk => have : r = M := by simpa [objsD] using hk
             subst this; exact h.ms.m
  | 1, hk => have : r = rm := by simpa [objsD] using hk
             subst this; exact h.rl
  | k + 2, hk => exact h.ms.lt (i := k) (by simpa using hk)
theorem ds_three {ds : List D} (h : 3 = ds.length) : ∃ a b c, ds = [a, b, c] := by
  match ds, h with
  | [a, b, c], _ => exact ⟨a, b, c, rfl⟩
theorem lk_some {H : Heap} {rm : Nat} {es : List (D × D)} {s : List UInt8} {i : Nat} {v : D} (hm : hget H rm = .map es) (hf : findE (.str s) es 0 = some (some (i, v))) : lookupD Tryd.prog 60 H (.map rm) (.str s) true = some (.tup [v, .bool true]) := by
  have hu : Tryd.prog.underlying 60 = some (.map 9 3) := un60
  have hk : keyOk Tryd.prog 9 (.str s) = true := by simp only [keyOk, un9]
  simp only [lookupD, hu, hk, Bool.true_eq_false, if_false, hm, hf, Option.bind_some, Option.map_some, if_true]
theorem lk_none {H : Heap} {rm : Nat} {es : List (D × D)} {s : List UInt8} (hm : hget H rm = .map es) (hf : findE (.str s) es 0 = some none) : lookupD Tryd.prog 60 H (.map rm) (.str s) true = some (.tup [.int .i64 0, .bool false]) := by
  have hu : Tryd.prog.underlying 60 = some (.map 9 3) := un60
  have hk : keyOk Tryd.prog 9 (.str s) = true := by simp only [keyOk, un9]
  have hz : zeroT Tryd.prog 3 = some (.int .i64 0) := zr3
  simp only [lookupD, hu, hk, Bool.true_eq_false, if_false, hm, hf, Option.bind_some, hz, Option.map_some, if_true]
theorem up_none {H : Heap} {rm : Nat} {es : List (D × D)} {s : List UInt8} {v : D} (hm : hget H rm = .map es) (hf : findE (.str s) es 0 = some none) : updateD Tryd.prog 60 H (.map rm) (.str s) v = some (H.set rm (.map (es ++ [(.str s, v)]))) := by
  have hu : Tryd.prog.underlying 60 = some (.map 9 3) := un60
  have hk : keyOk Tryd.prog 9 (.str s) = true := by simp only [keyOk, un9]
  simp only [updateD, hu, hk, Bool.true_eq_false, if_false, hm, hf, Option.map_some]
theorem headIs (ls : List (List Int)) : headSize 1 (ls.map isD) = true := by cases ls <;> rfl
theorem headRows (ls : List (List Int)) (h : ∀ r ∈ ls, r.length = 16) : headSize 16 (ls.map rowD) = true := by
  cases ls with
  | nil => rfl
  | cons r l => simp [headSize, rowD, D.cells, h r (by simp)]
theorem vec_len {d : D} {H : Heap} {xs : List D} (h : VecIs d H xs) {e : TypeId} (HH : Heap) : lenU (some (.slice e)) HH d = some xs.length := by
  rcases h with ⟨rfl, rfl⟩ | ⟨_, r, rfl, _, _⟩ <;> rfl
end Go.Proofs.W
end
/- A maker of machines without free steps: a set's number, walked. -/
section
set_option maxHeartbeats 4000000
set_option linter.unusedVariables false
set_option linter.unusedSimpArgs false
namespace Go.Proofs.W
open Go Vm Go.Proofs.Zs07

theorem sh8 {s : Int} (h0 : 0 ≤ s) (h1 : s < 65536) : IntKind.u8.wrap (IntKind.i64.wrap (s.fdiv 256)) = ((UInt8.ofNat (s.toNat / 256)).toNat : Int) := by
  have e : s.fdiv 256 = s / 256 := Int.fdiv_eq_ediv_of_nonneg s (by decide)
  have e2 : (UInt8.ofNat (s.toNat / 256)).toNat = s.toNat / 256 := by rw [UInt8.toNat_ofNat']; omega
  rw [e, e2, IntKind.wrap_u8, IntKind.wrap_i64]
  omega
theorem sh8' {s : Int} (h0 : 0 ≤ s) (h1 : s < 65536) : IntKind.u8.wrap (s.fdiv 256) = ((UInt8.ofNat (s.toNat / 256)).toNat : Int) := by
  have e : s.fdiv 256 = s / 256 := Int.fdiv_eq_ediv_of_nonneg s (by decide)
  have e2 : (UInt8.ofNat (s.toNat / 256)).toNat = s.toNat / 256 := by rw [UInt8.toNat_ofNat']; omega
  rw [e, e2, IntKind.wrap_u8]
  omega
theorem sh8q {s : Int} (h0 : 0 ≤ s) (h1 : s < 65536) : IntKind.u8.wrap (s.fdiv (2 ^ min 8 64)) = ((UInt8.ofNat (s.toNat / 256)).toNat : Int) := sh8' h0 h1
theorem lo8 {s : Int} (h0 : 0 ≤ s) (h1 : s < 65536) : IntKind.u8.wrap s = ((UInt8.ofNat (s.toNat % 256)).toNat : Int) := by
  have e2 : (UInt8.ofNat (s.toNat % 256)).toNat = s.toNat % 256 := by rw [UInt8.toNat_ofNat']; omega
  rw [e2, IntKind.wrap_u8]
  omega
theorem dstate_ok (M rm : Nat) (n : Nfa) (nx ls : List (List Int)) (ds : List D) (H : Heap) (l : List Int) (h : DkAt M rm n nx ls ds H) (hn : rightN n = true) (hl : ∀ s ∈ l, 0 ≤ s ∧ s < n.set.length) (hsm : ∀ q ∈ ls, small q) (hll : l.length ≤ 3300) (hls : ls.length ≤ 1000) :
    EvF Tryd.prog A 23 [.ptr M 0 0, isD l] H (fun d H' => d = .int .i64 (addS ls l).1 ∧ ∃ ds', DkAt M rm n nx (addS ls l).2 ds' H' ∧ Mv6 (dkL M rm ds) H (dkL M rm ds') H') (fun _ _ => False) := by
  have hrr := right_row hn
  have hsl : small l := fun s hs => by have := hl s hs; omega
  have ew : isD l = .sl false (l.map (.int .i64)) := rfl
  refine evF_inB (n := 78) (rs := [.tmp 4]) Tryd.func23 rfl rfl rfl rfl rfl rfl ?_
  by_cases hne : l = []
  · subst hne
    have e1 : (addS ls []).1 = -1 := by simp [addS]
    have e2 : (addS ls []).2 = ls := by simp [addS]
    rw [e1, e2]
    clear e1 e2 hsl hl
    repeat' (first | refine wz1 ?_ | refine wz2 ?_ | refine wz3 ?_ | refine wz4 ?_ | refine wz5 ?_ | refine wz6 ?_ | simp -dsimp (maxSteps:=999999) (disch:=omega) only[go_sem,simprocAttr, *] | ((first | refine wz8 (fun hh => ?_) (fun hh => ?_) | refine wz9 (fun hh => ?_) (fun hh => ?_) | refine wz7 (fun hh => ?_) (fun hh => ?_)) <;> (try replace hh := vqs hh) <;> (try (exfalso; first | exact hh | omega))))
    exact ⟨ds, h, Mv6.refl⟩
  have hpos : 0 < l.length := by cases l with | nil => exact absurd rfl hne | cons _ _ => simp
  repeat' (first | refine wz1 ?_ | refine wz2 ?_ | refine wz3 ?_ | refine wz4 ?_ | refine wz5 ?_ | refine wz6 ?_ | simp -dsimp (maxSteps:=999999) (disch:=omega) only[go_sem,simprocAttr, *] | ((first | refine wz8 (fun hh => ?_) (fun hh => ?_) | refine wz9 (fun hh => ?_) (fun hh => ?_) | refine wz7 (fun hh => ?_) (fun hh => ?_)) <;> (try replace hh := vqs hh) <;> (try (exfalso; first | exact hh | omega))))
  refine wpB_loop (fun e H1 => ∃ (j : Nat) (db : D), j ≤ l.length ∧ VecAt H.length db H1 (bytesOf (keyS (l.take j))) ∧ Same H.length H H1 ∧ e 0 = .ptr M 0 0 ∧ e 1 = isD l ∧ e 5 = db ∧ e 14 = isD l ∧ e 15 = .int .i64 l.length ∧ e 16 = .int .i64 j) (fun e H => l.length - natOf (e 16)) ?_ ?_
  · exact ⟨0, _, by omega, VecAt.nil (Nat.le_refl _), Same.refl, gs, gs, gs, gs, gs, gs⟩
  rintro e H1 ⟨j, db, hj, hv, hs, e0, e1, e5, e14, e15, e16⟩ R hR
  by_cases hb : j < l.length
  · obtain ⟨b0, b1⟩ := hsl l[j] (List.getElem_mem hb)
    have hx : (l.map (D.int .i64))[j]? = some (.int .i64 l[j]) := by simp [hb]
    have htk : keyS (l.take (j + 1)) = keyS (l.take j) ++ [UInt8.ofNat (l[j].toNat / 256), UInt8.ofNat (l[j].toNat % 256)] := by rw [take_succ' hb, keyS_app]
    have hkl : (bytesOf (keyS (l.take j))).length ≤ 6600 := by rw [bytes_len, keyS_len, List.length_take]; omega
    have ha := vecAt_appendL (t := 81) (H1 := H1 ++ [.arr [.int .u8 ((UInt8.ofNat (l[j].toNat / 256)).toNat : Int), .int .u8 ((UInt8.ofNat (l[j].toNat % 256)).toNat : Int)]]) el81 sz5 by5 zr5 rfl (by decide) hv (by simp) (fun r hr => hget_app_lt hr) (add_two rfl rfl) (by simp) rfl (headBytes _) (by simp; omega)
    rw [show bytesOf (keyS (l.take j)) ++ [D.int .u8 ((UInt8.ofNat (l[j].toNat / 256)).toNat : Int), D.int .u8 ((UInt8.ofNat (l[j].toNat % 256)).toNat : Int)] = bytesOf (keyS (l.take (j + 1))) by rw [htk, bytes_app]; rfl, ← sh8q b0 b1, ← lo8 b0 b1] at ha
    obtain ⟨d', H2, ha, hv2, hs2⟩ := ha
    have hs3 := hs.trans hs2
    clear hs2 hv htk hsl hl hsm h hrr
    generalize l[j] = x at *
    repeat' (first | refine wz1 ?_ | refine wz2 ?_ | refine wz3 ?_ | refine wz4 ?_ | refine wz5 ?_ | refine wz6 ?_ | simp -dsimp (maxSteps:=999999) (disch:=omega) only[go_sem,simprocAttr, *] | ((first | refine wz8 (fun hh => ?_) (fun hh => ?_) | refine wz9 (fun hh => ?_) (fun hh => ?_) | refine wz7 (fun hh => ?_) (fun hh => ?_)) <;> (try replace hh := vqs hh) <;> (try (exfalso; first | exact hh | omega))))
    refine hR _ _ ⟨j + 1, d', by omega, hv2, hs3, gs, gs, gs, gs, gs, gs⟩ ?_
    simp -dsimp (maxSteps:=999999) (disch:=omega) only[go_sem,simprocAttr, *,natOf_int]
  rw [List.take_of_length_le (by omega)] at hv
  have hel := vecAt_elems hv
  have hbb := bytesBack_of (keyS l)
  have hk : DkAt M rm n nx ls ds H1 := h.keep hs.1 fun r hr => hs.2 r (h.lt hr)
  have hmv : Mv6 (dkL M rm ds) H (dkL M rm ds) H1 := ⟨fun r hr _ => hs.2 r hr, hs.1, fun _ h => .inl h⟩
  have hf := find_ents hsl ls 0 0 hsm
  clear hv hs h
  cases hp : placeS l 0 ls with
  | some j =>
    rw [hp] at hf
    simp only [Option.map_some] at hf
    have hlk := lk_some hk.hm hf
    have e1 : addS ls l = ((j : Int), ls) := by simp [addS, hne, hp]
    rw [e1]
    have hM := hk.hM
    clear hf hp e1
    repeat' (first | refine wz1 ?_ | refine wz2 ?_ | refine wz3 ?_ | refine wz4 ?_ | refine wz5 ?_ | refine wz6 ?_ | simp -dsimp (maxSteps:=999999) (disch:=omega) only[go_sem,simprocAttr, *] | ((first | refine wz8 (fun hh => ?_) (fun hh => ?_) | refine wz9 (fun hh => ?_) (fun hh => ?_) | refine wz7 (fun hh => ?_) (fun hh => ?_)) <;> (try replace hh := vqs hh) <;> (try (exfalso; first | exact hh | omega))))
    exact ⟨ds, hk, hmv⟩
  | none =>
    rw [hp] at hf
    simp only [Option.map_none] at hf
    have hlk := lk_none hk.hm hf
    have hup := up_none (v := .int .i64 ls.length) hk.hm hf
    have e1 : addS ls l = ((ls.length : Int), ls ++ [l]) := by simp [addS, hne, hp]
    have e2 := ents_app ls 0 l
    rw [Nat.zero_add] at e2
    rw [e1]
    rw [← e2] at hup
    obtain ⟨dN, dR, dS, rfl⟩ := ds_three hk.ms.lenX
    have hM := hk.hM
    simp only [List.getD_cons_zero, List.getD_cons_succ] at hM
    have hlen := fun HH => vec_len (e := 23) (hk.ms.v 2 (by simp)) HH
    simp only [List.getD_cons_zero, List.getD_cons_succ, List.length_map] at hlen
    have g1 : Ms M [dN, dR, dS] [nx.map rowD, (ls.map (endsZ n)).map (.int .i64), ls.map isD] (H1.set rm (.map (ents 0 (ls ++ [l])))) :=
      ⟨fun i hi => vec_keep (hk.ms.v i hi) (by simp) fun r hr => hget_set_ne (fun e => hk.ro i (e ▸ hr)), hk.ms.lenX, hk.ms.ap, by simpa using hk.ms.m⟩
    have g2 : hget (H1.set rm (.map (ents 0 (ls ++ [l])))) M = _ := (hget_set_ne hk.rM).trans hM
    have g3 : hget (H1.set rm (.map (ents 0 (ls ++ [l])))) rm = .map (ents 0 (ls ++ [l])) := hget_set_eq hk.rl
    have g4 : (H1.set rm (.map (ents 0 (ls ++ [l])))).length = H1.length := by simp
    have g5 : ∀ r, r ≠ rm → hget (H1.set rm (.map (ents 0 (ls ++ [l])))) r = hget H1 r := fun r h => hget_set_ne (Ne.symm h)
    generalize hG2 : H1.set rm (.map (ents 0 (ls ++ [l]))) = H2 at *
    obtain ⟨d3, H3, a3, m3, M3, l3, k3, f3, o1, o2, o3⟩ := g1.app (p := 2) (by simp) (H1 := H2 ++ [.arr [.sl false (l.map (.int .i64))]]) el53 sz23 by23 zr23 rfl (by decide) (by simp) (fun r hr => hget_app_lt hr) (add_new (.inl (strip_is l))) rfl (headIs ls) (by simp; omega)
    rw [g2] at M3
    simp only [List.set_cons_zero, List.set_cons_succ, List.getD_cons_zero, List.getD_cons_succ] at m3 a3 k3
    have w3 := m3.m
    have c3 : hget (H3.set M (.arr [.agg [.sl false (n.free.map isD), .sl false (n.set.map (.int .u16)), .sl false (n.to.map (.int .i64)), .sl false (n.rule.map (.int .i64)), dN, dR, .map rm, d3]])) M = .arr [.agg [.sl false (n.free.map isD), .sl false (n.set.map (.int .u16)), .sl false (n.to.map (.int .i64)), .sl false (n.rule.map (.int .i64)), dN, dR, .map rm, d3]] := hget_set_eq w3
    have e3 : (H3.set M (.arr [.agg [.sl false (n.free.map isD), .sl false (n.set.map (.int .u16)), .sl false (n.to.map (.int .i64)), .sl false (n.rule.map (.int .i64)), dN, dR, .map rm, d3]])).length = H3.length := by simp
    have z3 : ∀ r, r ≠ M → hget (H3.set M (.arr [.agg [.sl false (n.free.map isD), .sl false (n.set.map (.int .u16)), .sl false (n.to.map (.int .i64)), .sl false (n.rule.map (.int .i64)), dN, dR, .map rm, d3]])) r = hget H3 r := fun r h => hget_set_ne (Ne.symm h)
    replace m3 := m3.setM (.arr [.agg [.sl false (n.free.map isD), .sl false (n.set.map (.int .u16)), .sl false (n.to.map (.int .i64)), .sl false (n.rule.map (.int .i64)), dN, dR, .map rm, d3]])
    generalize hG3 : H3.set M (.arr [.agg [.sl false (n.free.map isD), .sl false (n.set.map (.int .u16)), .sl false (n.to.map (.int .i64)), .sl false (n.rule.map (.int .i64)), dN, dR, .map rm, d3]]) = J3 at m3 c3 e3 z3
    have hru : ruleG [.ptr M 0 0, .sl false (l.map (.int .i64))] (([D.ptr M 0 0, .sl false (l.map (.int .i64))].flatMap objsD).map (hget J3)) = some (.int .i64 (endsZ n l)) := by
      have e := ruleL_ends n l (-1) (fun s hs => by have := hl s hs; omega)
      have e0 : ([D.ptr M 0 0, .sl false (l.map (.int .i64))].flatMap objsD).map (hget J3) = [hget J3 M] := rfl
      rw [e0, c3]
      simp only [ruleG]
      rw [if_pos (by simp; omega), e]; rfl
    obtain ⟨d4, H4, a4, m4, M4, l4, k4, f4, p1, p2, p3⟩ := m3.app (p := 1) (by simp) (H1 := J3) (y := .sl false [.int .i64 (endsZ n l)]) el23 sz3 by3 zr3 rfl (by decide) (Nat.le_refl _) (fun r hr => rfl) (add_lit rfl) rfl (headInts _) (by simp; omega)
    rw [c3] at M4
    simp only [List.set_cons_zero, List.set_cons_succ, List.getD_cons_zero, List.getD_cons_succ] at m4 a4 k4
    have w4 := m4.m
    have hend : DkAt M rm n nx (ls ++ [l]) [dN, d4, d3] (H4.set M (.arr [.agg [.sl false (n.free.map isD), .sl false (n.set.map (.int .u16)), .sl false (n.to.map (.int .i64)), .sl false (n.rule.map (.int .i64)), dN, d4, .map rm, d3]])) ∧ Mv6 (dkL M rm [dN, dR, dS]) H (dkL M rm [dN, d4, d3]) (H4.set M (.arr [.agg [.sl false (n.free.map isD), .sl false (n.set.map (.int .u16)), .sl false (n.to.map (.int .i64)), .sl false (n.rule.map (.int .i64)), dN, d4, .map rm, d3]])) := by
      have hrl := hk.rl
      simp only [List.length_append, List.length_cons, List.length_nil] at l3
      have ro : ∀ i, rm ∉ objsD ([dN, d4, d3].getD i ud) := fun i hi => by
        match i, hi with
        | 0, hi => exact hk.ro 0 hi
        | 1, hi => have := f4 rm (by simpa using hi); omega
        | 2, hi => have := f3 rm (by simpa using hi); omega
        | i + 3, hi => simp [ud, objsD] at hi
      refine ⟨⟨by simpa using m4.setM _, by rw [hget_set_eq w4]; rfl, ?_, hk.rM, ro, by simp; omega⟩, hmv.trans ⟨fun r hr ho => ?_, by simp; omega, fun r ho => ?_⟩⟩
      · rw [hget_set_ne (Ne.symm hk.rM), k4 rm (by omega) (hk.ro 1), z3 rm hk.rM, k3 rm (by omega) (hk.ro 2), g3]
      · have h0 : r ≠ M := fun e => ho ⟨0, by simp [objsD, e]⟩
        have h1 : r ≠ rm := fun e => ho ⟨1, by simp [objsD, e]⟩
        have h2 : r ∉ objsD dR := fun e => ho ⟨3, e⟩
        have h3 : r ∉ objsD dS := fun e => ho ⟨4, e⟩
        rw [hget_set_ne (Ne.symm h0), k4 r (by omega) h2, z3 r h0, k3 r (by omega) h3, g5 r h1]
      · obtain ⟨k, hk'⟩ := ho
        match k, hk' with
        | 0, hk' => exact .inl ⟨0, hk'⟩
        | 1, hk' => exact .inl ⟨1, hk'⟩
        | 2, hk' => exact .inl ⟨2, hk'⟩
        | 3, hk' => have := f4 r (by simpa using hk'); exact .inr (by omega)
        | 4, hk' => have := f3 r (by simpa using hk'); exact .inr (by omega)
        | k + 5, hk' => simp [ud, objsD] at hk'
    clear m3 m4 k3 k4 f3 f4 e3 z3 l3 l4 w3 w4 g1 g3 g4 g5 e1 e2 hf hp hmv hk hl hsl hsm hrr
    repeat' (first | refine wz1 ?_ | refine wz2 ?_ | refine wz3 ?_ | refine wz4 ?_ | refine wz5 ?_ | refine wz6 ?_ | simp -dsimp (maxSteps:=999999) (disch:=omega) only[go_sem,simprocAttr, *] | ((first | refine wz8 (fun hh => ?_) (fun hh => ?_) | refine wz9 (fun hh => ?_) (fun hh => ?_) | refine wz7 (fun hh => ?_) (fun hh => ?_)) <;> (try replace hh := vqs hh) <;> (try (exfalso; first | exact hh | omega))))
    refine wpB_regionXL (prs := []) (by kernel_rfl) rfl (by kernel_rfl) ?_; simp -dsimp (maxSteps:=999999) (disch:=omega) only[go_sem,simprocAttr, *]
    refine ⟨fun h => Bool.noConfusion (show false = true from h), evB_rd (g := ruleG) bo37 rfl hru ?_⟩
    clear hru
    repeat' (first | refine wz1 ?_ | refine wz2 ?_ | refine wz3 ?_ | refine wz4 ?_ | refine wz5 ?_ | refine wz6 ?_ | simp -dsimp (maxSteps:=999999) (disch:=omega) only[go_sem,simprocAttr, *] | ((first | refine wz8 (fun hh => ?_) (fun hh => ?_) | refine wz9 (fun hh => ?_) (fun hh => ?_) | refine wz7 (fun hh => ?_) (fun hh => ?_)) <;> (try replace hh := vqs hh) <;> (try (exfalso; first | exact hh | omega))))
    refine ⟨rfl, ?_⟩
    repeat' (first | refine wz1 ?_ | refine wz2 ?_ | refine wz3 ?_ | refine wz4 ?_ | refine wz5 ?_ | refine wz6 ?_ | simp -dsimp (maxSteps:=999999) (disch:=omega) only[go_sem,simprocAttr, *] | ((first | refine wz8 (fun hh => ?_) (fun hh => ?_) | refine wz9 (fun hh => ?_) (fun hh => ?_) | refine wz7 (fun hh => ?_) (fun hh => ?_)) <;> (try replace hh := vqs hh) <;> (try (exfalso; first | exact hh | omega))))
    exact ⟨_, hend⟩
end Go.Proofs.W
end
/- The machine without free steps of expressions, walked. -/
section
set_option maxHeartbeats 4000000
set_option linter.unusedVariables false
set_option linter.unusedSimpArgs false
namespace Go.Proofs.W
open Go Vm Go.Proofs.Zs07

theorem strip_rxsD' (l : List Rx) : stripL [rxsD l] = some [rxsD l] := strip1 (by simp [rxsD, strip, strip_rxs])
noncomputable def dbuild (l : List Rx) : Dfa × Int :=
  match buildN l with
  | none => (⟨[], []⟩, 1)
  | some n => match runB n 202 0 [clos n [0]] [] with
    | none => (⟨[], []⟩, 7)
    | some (ls, nx) => (mkDfa n ls nx, 0)
def dbD (x : Dfa × Int) : D := .tup [dfaD x.1, .int .i64 x.2]
theorem out_dk {dN dR : D} {H : Heap} {nx : List (List Int)} {rl : List Int} (hN : VecIs dN H (nx.map rowD)) (hR : VecIs dR H (rl.map (.int .i64))) (e : Int) : outPure H (.tup [.agg [dN, dR], .int .i64 e]) = some (dbD (⟨nx, rl⟩, e)) := by
  have vN := vecIs_a hN
  have vR := vecIs_a hR
  have hz : ∀ {d : D} {xs : List D}, VecA d H xs → strip d = none ∨ (d = .sl true [] ∧ xs = []) := fun {d xs} h => by
    rcases h with ⟨h1, h2⟩ | ⟨r, h1, _⟩
    · exact .inr ⟨h2, h1⟩
    · exact .inl (by rw [h1]; rfl)
  by_cases hn : stripL [dN, dR] = none
  · obtain ⟨H1, p1, s1, l1⟩ := pur_plainA (k := 2) vN (strip_rows nx)
    obtain ⟨H2, p2, s2, l2⟩ := pur_plainA (k := 2) (vR.soft s1 l1) (strip_ints rl)
    have hnone2 : stripL [D.agg [dN, dR], .int .i64 e] = none := by rw [stripL, strip, hn]; rfl
    unfold outPure deepest
    rw [pur_tup hnone2]
    simp only [purL]
    rw [pur_agg' hn]
    simp only [purL, p1, p2, Option.bind_some, Option.map_some]
    rw [pur_strip (show strip (.int .i64 e) = some (.int .i64 e) from rfl)]
    rfl
  · rcases hz vN with h1 | ⟨rfl, h1⟩
    · exact absurd (by simp [stripL, h1]) hn
    · rcases hz vR with h2 | ⟨rfl, h2⟩
      · exact absurd (by simp [stripL, h2, strip]) hn
      · have e1 : nx = [] := by simpa using h1
        have e2 : rl = [] := by simpa using h2
        subst e1; subst e2
        rfl
theorem stepN_eq {n : Nfa} (hn : rightN n = true) (c : Int) (l : List Int) : stepN n c l = stp n c l := by rw [stepN, if_pos hn]
theorem closeN_eq {n : Nfa} (hn : rightN n = true) (l : List Int) : closeN n l = clos n l := by rw [closeN, if_pos hn]
/-- a row, filled so far -/
def rowZ (r : List Int) (j : Nat) : List Int := r ++ List.replicate (16 - j) 0
theorem rowZ_len {r : List Int} {j : Nat} (h : r.length = j) (hj : j ≤ 16) : (rowZ r j).length = 16 := by simp [rowZ, h]; omega
theorem rowZ_set {r : List Int} {j : Nat} (h : r.length = j) (hj : j < 16) (x : Int) : (rowZ r j).take j ++ x :: (rowZ r j).drop (j + 1) = rowZ (r ++ [x]) (j + 1) := by
  subst h
  unfold rowZ
  rw [List.take_append_of_le_length (Nat.le_refl _), List.take_length, List.drop_append, List.drop_of_length_le (by omega)]
  simp only [List.nil_append, List.drop_replicate, List.append_assoc, List.cons_append]
  congr 3
  omega
theorem small_good {n : Nfa} (hn : rightN n = true) {q : List Int} (h : GoodS n q) : small q := fun s hs => by
  obtain ⟨_, l, rfl⟩ := h
  have := clos_in hs
  have := right_row hn
  omega
theorem zrN7 : zeroT Tryd.prog 56 = some (.agg [.sl true [], .sl true [], .sl true [], .sl true []]) := by kernel_rfl
theorem zrD7 : zeroT Tryd.prog 25 = some (.agg [.sl true [], .sl true []]) := by kernel_rfl
theorem zrR7 : zeroT Tryd.prog 49 = some (rowD (rowZ [] 0)) := by kernel_rfl
theorem zrM7 : zeroT Tryd.prog 62 = some (.agg [.sl true [], .sl true [], .sl true [], .sl true [], .sl true [], .sl true [], .nilm, .sl true []]) := by kernel_rfl
def zeroOb : Ob := .arr [.agg [.sl true [], .sl true []]]
theorem not_own0 {k : Nat} (hk : k ≠ 2 ∧ k ≠ 3) : ¬ own (dkL 3 2 [.sl true [], .sl true [], .sl true []]) k := by
  rintro ⟨i, hi⟩
  match i, hi with
  | 0, hi => have : k = 3 := by simpa [objsD] using hi
             omega
  | 1, hi => have : k = 2 := by simpa [objsD] using hi
             omega
  | 2, hi => cases hi
  | 3, hi => cases hi
  | 4, hi => cases hi
  | i + 5, hi => simp [ud, objsD] at hi
theorem dk_zero (n : Nfa) (L : Heap) (a b : Ob) : DkAt 3 2 n [] [] [.sl true [], .sl true [], .sl true []] (a :: b :: .map [] :: .arr [.agg [.sl false (n.free.map isD), .sl false (n.set.map (.int .u16)), .sl false (n.to.map (.int .i64)), .sl false (n.rule.map (.int .i64)), .sl true [], .sl true [], .map 2, .sl true []]] :: L) := by
  refine ⟨⟨fun i hi => ?_, rfl, fun i j hij r hi hj => ?_, by simp⟩, rfl, rfl, by omega, fun i hi => ?_, by simp⟩
  · match i, hi with
    | 0, _ => exact VecIs.nil
    | 1, _ => exact VecIs.nil
    | 2, _ => exact VecIs.nil
  · match i, j with
    | 0, 0 => exact hij rfl
    | 0, 1 => cases hj
    | 0, 2 => cases hj
    | 0, 3 => cases hj
    | 0, j + 4 => simp [ud, objsD] at hj
    | 1, _ => cases hi
    | 2, _ => cases hi
    | 3, _ => cases hi
    | i + 4, _ => simp [ud, objsD] at hi
  · match i, hi with
    | 0, hi => cases hi
    | 1, hi => cases hi
    | 2, hi => cases hi
    | i + 3, hi => simp [ud, objsD] at hi
theorem mkMap7 (H : Heap) : makeMapD Tryd.prog 60 none H = some (.map H.length, H ++ [.map []]) := by
  simp only [makeMapD, un60]
theorem bdD0 : buildD Tryd.prog 25 [] = some (.agg [.sl true [], .sl true []]) := by kernel_rfl
theorem bdM7 (n : Nfa) : buildD Tryd.prog 62 [(0, nfaD n), (2, D.map 2)] = some (.agg [.sl false (n.free.map isD), .sl false (n.set.map (.int .u16)), .sl false (n.to.map (.int .i64)), .sl false (n.rule.map (.int .i64)), .sl true [], .sl true [], .map 2, .sl true []]) := by kernel_rfl
set_option maxRecDepth 20000 in
theorem dbuild_ok (l : List Rx) (hl : l.length ≤ 16 → ∀ r ∈ l, okR r) (hll : l.length ≤ 100000) : PureF Tryd.prog A 15 [rxsD l] (dbD (dbuild l)) := by
  have hB := build_okS l hl hll
  refine evF_inB (n := 80) (rs := [.cell 2 25, .tmp 3]) Tryd.func15 rfl rfl rfl rfl rfl rfl ?_
  repeat' (first | refine wz1 ?_ | refine wz2 ?_ | refine wz3 ?_ | refine wz4 ?_ | refine wz5 ?_ | refine wz6 ?_ | simp -dsimp (maxSteps:=999999) (disch:=omega) only[go_sem,simprocAttr, *,zrN7, zrD7] | ((first | refine wz8 (fun hh => ?_) (fun hh => ?_) | refine wz9 (fun hh => ?_) (fun hh => ?_) | refine wpB_cond (by simp -dsimp (maxSteps:=999999) (disch:=omega) only[go_sem,simprocAttr, *,zrN7, zrD7]; exact rfl) (fun hh => ?_) (fun hh => ?_)) <;> (try replace hh := vqs hh) <;> (try (exfalso; first | exact hh | omega))))
  refine evB_plain bo22 rfl rfl (strip_rxsD' l) hB ?_
  unfold dbuild
  cases hb : buildN l with
  | none =>
    have a1 := nfa_noTup emptyN
    have a2 : (nfaD emptyN).cells = [.sl false (emptyN.free.map isD), .sl false (emptyN.set.map (.int .u16)), isD emptyN.to, isD emptyN.rule] := rfl
    have a3 := nfa_aggQ emptyN
    repeat' (first | refine wz1 ?_ | refine wz2 ?_ | refine wz3 ?_ | refine wz4 ?_ | refine wz5 ?_ | refine wz6 ?_ | simp -dsimp (maxSteps:=999999) (disch:=omega) only[go_sem,simprocAttr, *,builtD, zrN7, zrD7, bdD0] | ((first | refine wz8 (fun hh => ?_) (fun hh => ?_) | refine wz9 (fun hh => ?_) (fun hh => ?_) | refine wpB_cond (by simp -dsimp (maxSteps:=999999) (disch:=omega) only[go_sem,simprocAttr, *,builtD, zrN7, zrD7, bdD0]; exact rfl) (fun hh => ?_) (fun hh => ?_)) <;> (try replace hh := vqs hh) <;> (try (exfalso; first | exact hh | omega))))
    exact outPure_strip rfl
  | some n =>
    obtain ⟨-, g2, g3, g4⟩ := build_right hb
    have a1 := nfa_noTup n
    have a2 : (nfaD n).cells = [.sl false (n.free.map isD), .sl false (n.set.map (.int .u16)), .sl false (n.to.map (.int .i64)), .sl false (n.rule.map (.int .i64))] := rfl
    have a3 := nfa_aggQ n
    have hC0 := close_ok n [0] g2 (by simp)
    rw [closeN_eq g3] at hC0
    have hrr := right_row g3
    clear hB hl hb
    simp only
    generalize hG : runB n 202 0 [clos n [0]] [] = G
    replace hG : Hid (runB n 202 0 [clos n [0]] [] = G) := hG
    repeat' (first | refine wz1 ?_ | refine wz2 ?_ | refine wz3 ?_ | refine wz4 ?_ | refine wz5 ?_ | refine wz6 ?_ | simp -dsimp (maxSteps:=999999) (disch:=omega) only[go_sem,simprocAttr, *,builtD, zrN7, zrD7, zrM7, mkMap7, bdM7] | ((first | refine wz8 (fun hh => ?_) (fun hh => ?_) | refine wz9 (fun hh => ?_) (fun hh => ?_) | refine wpB_cond (by simp -dsimp (maxSteps:=999999) (disch:=omega) only[go_sem,simprocAttr, *,builtD, zrN7, zrD7, zrM7, mkMap7, bdM7]; exact rfl) (fun hh => ?_) (fun hh => ?_)) <;> (try replace hh := vqs hh) <;> (try (exfalso; first | exact hh | omega))))
    refine evB_pureK bo24 rfl rfl (pures_one (H := [Ob.arr [D.agg [D.sl true [], D.sl true []]], Ob.arr [nfaD n], Ob.map [], Ob.arr [.agg [.sl false (n.free.map isD), .sl false (n.set.map (.int .u16)), .sl false (n.to.map (.int .i64)), .sl false (n.rule.map (.int .i64)), .sl true [], .sl true [], .map 2, .sl true []]]]) (strip_nfa n) rfl rfl) hC0 ?_
    intro H1 hH1
    obtain ⟨ob, rfl⟩ : ∃ ob, H1 = [Ob.arr [D.agg [D.sl true [], D.sl true []]], Ob.arr [nfaD n], Ob.map [], Ob.arr [.agg [.sl false (n.free.map isD), .sl false (n.set.map (.int .u16)), .sl false (n.to.map (.int .i64)), .sl false (n.rule.map (.int .i64)), .sl true [], .sl true [], .map 2, .sl true []]], ob] := by
      rcases hH1 with rfl | rfl <;> exact ⟨_, rfl⟩
    clear hH1 hC0
    have hz := clos_zero (n := n) (by omega)
    have hS := dstate_ok 3 2 n [] [] _ _ (clos n [0]) (dk_zero n [ob] (Ob.arr [D.agg [D.sl true [], D.sl true []]]) (Ob.arr [nfaD n])) g3 (fun s hs => clos_in hs) (by simp) (by have := clos_len n [0]; omega) (by simp)
    have hfst : addS [] (clos n [0]) = (0, [clos n [0]]) := by simp [addS, hz, placeS]
    rw [hfst] at hS
    repeat' (first | refine wz1 ?_ | refine wz2 ?_ | refine wz3 ?_ | refine wz4 ?_ | refine wz5 ?_ | refine wz6 ?_ | simp -dsimp (maxSteps:=999999) (disch:=omega) only[go_sem,simprocAttr, *] | ((first | refine wz8 (fun hh => ?_) (fun hh => ?_) | refine wz9 (fun hh => ?_) (fun hh => ?_) | refine wz7 (fun hh => ?_) (fun hh => ?_)) <;> (try replace hh := vqs hh) <;> (try (exfalso; first | exact hh | omega))))
    refine evB_state bo23 rfl rfl hS ?_ (fun _ _ h => h.elim)
    rintro _ H1 ⟨rfl, ds1, hd1, hv1⟩
    have hI := done_zero hz
    have h01 : hget H1 0 = .arr [.agg [.sl true [], .sl true []]] := by rw [hv1.keep 0 (by simp) (not_own0 (by omega))]; rfl
    have h11 : hget H1 1 = .arr [nfaD n] := by rw [hv1.keep 1 (by simp) (not_own0 (by omega))]; rfl
    have hn0 : ¬ own (dkL 3 2 ds1) 0 := fun ho => by
      rcases hv1.ow 0 ho with h | h
      · exact not_own0 (by omega) h
      · simp at h
    have hn1 : ¬ own (dkL 3 2 ds1) 1 := fun ho => by
      rcases hv1.ow 1 ho with h | h
      · exact not_own0 (by omega) h
      · simp at h
    clear hv1 hS hfst
    repeat' (first | refine wz1 ?_ | refine wz2 ?_ | refine wz3 ?_ | refine wz4 ?_ | refine wz5 ?_ | refine wz6 ?_ | simp -dsimp (maxSteps:=999999) (disch:=omega) only[go_sem,simprocAttr, *] | ((first | refine wz8 (fun hh => ?_) (fun hh => ?_) | refine wz9 (fun hh => ?_) (fun hh => ?_) | refine wz7 (fun hh => ?_) (fun hh => ?_)) <;> (try replace hh := vqs hh) <;> (try (exfalso; first | exact hh | omega))))
    refine wpB_loop (fun e Hi => ∃ (k i : Nat) (ls nx : List (List Int)) (ds : List D), k + i = 202 ∧ DoneI n i ls nx ∧ ls.length ≤ 200 ∧ DkAt 3 2 n nx ls ds Hi ∧ hget Hi 0 = .arr [.agg [.sl true [], .sl true []]] ∧ hget Hi 1 = .arr [nfaD n] ∧ ¬ own (dkL 3 2 ds) 0 ∧ ¬ own (dkL 3 2 ds) 1 ∧ G = runB n k i ls nx ∧ e 2 = .ptr 0 0 0 ∧ e 4 = .ptr 1 0 0 ∧ e 6 = .ptr 3 0 0 ∧ e 7 = .int .i64 i) (fun e H => 202 - natOf (e 7)) ?_ ?_
    · exact ⟨202, 0, _, _, ds1, by omega, hI, by simp, hd1, h01, h11, hn0, hn1, Eq.symm hG, gs, gs, gs, gs⟩
    clear hG hI hd1 h01 h11 hn0 hn1 hz
    rintro e Hi ⟨k, i, ls, nx, ds, hk, hI, hls, hd, h0, h1, hn0, hn1, hG, e2, e4, e6, e7⟩ R hR
    obtain ⟨k, rfl⟩ : ∃ k', k = k' + 1 := ⟨k - 1, by have := hI.le; omega⟩
    obtain ⟨dN, dR, dS, rfl⟩ := ds_three hd.ms.lenX
    have hM := hd.hM
    simp only [List.getD_cons_zero, List.getD_cons_succ] at hM
    have hlen := fun HH => vec_len (e := 23) (hd.ms.v 2 (by simp)) HH
    simp only [List.getD_cons_zero, List.getD_cons_succ, List.length_map] at hlen
    rw [runB] at hG
    by_cases hb : i < ls.length
    case neg =>
      rw [if_neg hb] at hG
      subst hG
      have hvN := hd.ms.v 0 (by simp)
      have hvR := hd.ms.v 1 (by simp)
      simp only [List.getD_cons_zero, List.getD_cons_succ] at hvN hvR
      have hl0 := lt_of_hget h0
      have k1 : ∀ ob, VecIs dN (Hi.set 0 ob) (nx.map rowD) := fun ob => vec_keep hvN (by simp) fun r hr => hget_set_ne fun e => hn0 (e ▸ ⟨2, by simpa using hr⟩)
      have k2 : ∀ ob, VecIs dR (Hi.set 0 ob) ((ls.map (endsZ n)).map (.int .i64)) := fun ob => vec_keep hvR (by simp) fun r hr => hget_set_ne fun e => hn0 (e ▸ ⟨3, by simpa using hr⟩)
      have hout := fun ob => out_dk (k1 ob) (k2 ob) 0
      clear k1 k2 hvN hvR hd
      repeat' (first | refine wz1 ?_ | refine wz2 ?_ | refine wz3 ?_ | refine wz4 ?_ | refine wz5 ?_ | refine wz6 ?_ | simp -dsimp (maxSteps:=999999) (disch:=omega) only[go_sem,simprocAttr, *] | ((first | refine wz8 (fun hh => ?_) (fun hh => ?_) | refine wz9 (fun hh => ?_) (fun hh => ?_) | refine wz7 (fun hh => ?_) (fun hh => ?_)) <;> (try replace hh := vqs hh) <;> (try (exfalso; first | exact hh | omega))))
      exact hout _
    rw [if_pos hb] at hG
    obtain ⟨q, hq⟩ : ∃ q, ls[i]? = some q := ⟨_, List.getElem?_eq_getElem hb⟩
    have hqd : ls.getD i [] = q := by simp [List.getD_eq_getElem?_getD, hq]
    rw [hqd] at hG
    have hIs := hI.step hb
    rw [hqd] at hIs
    repeat' (first | refine wz1 ?_ | refine wz2 ?_ | refine wz3 ?_ | refine wz4 ?_ | refine wz5 ?_ | refine wz6 ?_ | simp -dsimp (maxSteps:=999999) (disch:=omega) only[go_sem,simprocAttr, *,zrR7] | ((first | refine wz8 (fun hh => ?_) (fun hh => ?_) | refine wz9 (fun hh => ?_) (fun hh => ?_) | refine wpB_cond (by simp -dsimp (maxSteps:=999999) (disch:=omega) only[go_sem,simprocAttr, *,zrR7]; exact rfl) (fun hh => ?_) (fun hh => ?_)) <;> (try replace hh := vqs hh) <;> (try (exfalso; first | exact hh | omega))))
    have hrl : hget (Hi ++ [Ob.arr [rowD (rowZ [] 0)]]) Hi.length = .arr [rowD (rowZ [] 0)] := hget_new
    have hdr : DkAt 3 2 n nx ls [dN, dR, dS] (Hi ++ [Ob.arr [rowD (rowZ [] 0)]]) := hd.keep (by simp) fun r hr => hget_app_lt (hd.lt hr)
    have hnr : ¬ own (dkL 3 2 [dN, dR, dS]) Hi.length := fun ho => by have := hd.lt ho; omega
    have h0r : hget (Hi ++ [Ob.arr [rowD (rowZ [] 0)]]) 0 = .arr [.agg [.sl true [], .sl true []]] := by rw [hget_app_lt (lt_of_hget h0), h0]
    have h1r : hget (Hi ++ [Ob.arr [rowD (rowZ [] 0)]]) 1 = .arr [nfaD n] := by rw [hget_app_lt (lt_of_hget h1), h1]
    have hr0 : Hi.length ≠ 0 := by have := lt_of_hget h0; omega
    have hr1 : Hi.length ≠ 1 := by have := lt_of_hget h1; omega
    have hrl2 : Hi.length < (Hi ++ [Ob.arr [rowD (rowZ [] 0)]]).length := by simp
    generalize hrr8 : Hi.length = r8 at *
    generalize Hi ++ [Ob.arr [rowD (rowZ [] 0)]] = Hr at *
    have hgood := rowTo_good (s := q) hI.good
    have hold := rowTo_old n q ls
    have hlen2 := rowTo_len n q ls
    refine wpB_loop (fun e Hj => ∃ (j : Nat) (ds : List D), j ≤ 16 ∧ DkAt 3 2 n nx (rowTo n q ls j).2 ds Hj ∧ hget Hj 0 = .arr [.agg [.sl true [], .sl true []]] ∧ hget Hj 1 = .arr [nfaD n] ∧ hget Hj r8 = .arr [rowD (rowZ (rowTo n q ls j).1 j)] ∧ ¬ own (dkL 3 2 ds) 0 ∧ ¬ own (dkL 3 2 ds) 1 ∧ ¬ own (dkL 3 2 ds) r8 ∧ e 2 = .ptr 0 0 0 ∧ e 4 = .ptr 1 0 0 ∧ e 6 = .ptr 3 0 0 ∧ e 7 = .int .i64 i ∧ e 8 = .ptr r8 0 0 ∧ e 37 = .int .i64 j) (fun e H => 16 - natOf (e 37)) ?_ ?_
    · exact ⟨0, _, by omega, hdr, h0r, h1r, hrl, hn0, hn1, hnr, gs, gs, gs, gs, gs, gs⟩
    have e7o := e7
    clear hdr hrl h0r h1r hn0 hn1 hnr hrl2 hM hlen hd h0 h1 e2 e4 e6 e7
    rintro e Hj ⟨j, ds, hj, hd, h0, h1, h8, hn0, hn1, hn8, e2, e4, e6, e7, e8, e37⟩ R2 hR2
    obtain ⟨dN, dR, dS, rfl⟩ := ds_three hd.ms.lenX
    have hM := hd.hM
    simp only [List.getD_cons_zero, List.getD_cons_succ] at hM
    have hlj := hlen2 j
    by_cases hbj : j < 16
    · have hqj := hold j i q hq
      have hnz : (rowTo n q ls j).2 ≠ [] := by intro e; have k1 := hlj.2.1; have k2 := congrArg List.length e; simp only [List.length_nil] at k2; omega
      obtain ⟨rS, hdS, hgS, hrS⟩ := vec_get (hd.ms.v 2 (by simp)) (by simpa using hnz)
      simp only [List.getD_cons_zero, List.getD_cons_succ, List.length_map] at hdS hgS
      have hil : i < (rowTo n q ls j).2.length := (List.getElem?_eq_some_iff.1 hqj).1
      have hvs : vecSize Hj rS 1 = true := vecSize_of hgS (by simpa using hnz) (headIs _)
      have hqm : ((rowTo n q ls j).2.map isD)[i]? = some (isD q) := by simp [hqj]
      obtain ⟨-, lq, hlq⟩ := hI.good q (List.mem_of_getElem? hq)
      have hqlen : q.length ≤ 3300 := by have := clos_len n lq; rw [← hlq] at this; omega
      have hst := stepc_ok n q j g2 (by omega)
      rw [stepN_eq g3] at hst
      have hcl := close_ok n (stp n j q) g2 (by have := stp_len n j q; omega)
      rw [closeN_eq g3] at hcl
      have hs1 := stripNIc n q j
      have hs2 := stripNI n (stp n j q)
      have hS := dstate_ok 3 2 n nx _ _ Hj (clos n (stp n j q)) hd g3 (fun s hs => clos_in hs) (fun q' hq' => small_good g3 (hgood j q' hq')) (by have := clos_len n (stp n j q); omega) (by omega)
      have hlead : leadN n j q = clos n (stp n j q) := rfl
      have hre1 : (rowTo n q ls (j + 1)).1 = (rowTo n q ls j).1 ++ [(addS (rowTo n q ls j).2 (clos n (stp n j q))).1] := rfl
      have hre2 : (rowTo n q ls (j + 1)).2 = (addS (rowTo n q ls j).2 (clos n (stp n j q))).2 := rfl
      rw [← hre2] at hS
      clear hlead hnz hlq hgood hold hlen2 hG hIs
      repeat' (first | refine wz1 ?_ | refine wz2 ?_ | refine wz3 ?_ | refine wz4 ?_ | refine wz5 ?_ | refine wz6 ?_ | simp -dsimp (maxSteps:=999999) (disch:=omega) only[go_sem,simprocAttr, *] | ((first | refine wz8 (fun hh => ?_) (fun hh => ?_) | refine wz9 (fun hh => ?_) (fun hh => ?_) | refine wz7 (fun hh => ?_) (fun hh => ?_)) <;> (try replace hh := vqs hh) <;> (try (exfalso; first | exact hh | omega))))
      refine wpB_regionXL (prs := []) (by kernel_rfl) rfl (by kernel_rfl) ?_
      simp -dsimp (maxSteps:=999999) (disch:=omega) only[go_sem,simprocAttr, *,isD]
      refine ⟨fun _ => congrArg Option.isSome hs1, evB_plain bo25 rfl rfl hs1 hst ?_⟩
      simp -dsimp (maxSteps:=999999) (disch:=omega) only[go_sem,simprocAttr, *]
      refine ⟨fun _ => rfl, evB_plain bo24 rfl rfl hs2 hcl ?_⟩
      simp -dsimp (maxSteps:=999999) (disch:=omega) only[go_sem,simprocAttr, *]
      refine ⟨fun h => Bool.noConfusion (show false = true from h), evB_state bo23 rfl rfl hS ?_ (fun _ _ h => h.elim)⟩
      rintro _ H3 ⟨rfl, ds3, hd3, hv3⟩
      have h83 := (hv3.keep r8 (lt_of_hget h8) hn8).trans h8
      have h03 := (hv3.keep 0 (lt_of_hget h0) hn0).trans h0
      have h13 := (hv3.keep 1 (lt_of_hget h1) hn1).trans h1
      have hn03 : ¬ own (dkL 3 2 ds3) 0 := fun ho => by
        rcases hv3.ow 0 ho with h | h
        · exact hn0 h
        · have := lt_of_hget h0; omega
      have hn13 : ¬ own (dkL 3 2 ds3) 1 := fun ho => by
        rcases hv3.ow 1 ho with h | h
        · exact hn1 h
        · have := lt_of_hget h1; omega
      have hn83 : ¬ own (dkL 3 2 ds3) r8 := fun ho => by
        rcases hv3.ow r8 ho with h | h
        · exact hn8 h
        · have := lt_of_hget h8; omega
      have hz8 := rowZ_len hlj.1 (by omega : j ≤ 16)
      have hz9 := rowZ_set hlj.1 hbj (addS (rowTo n q ls j).2 (clos n (stp n j q))).1
      rw [← hre1] at hz9
      clear hS hst hcl hs1 hs2 hv3 hd hM hgS hrS hvs hqm hre1 hre2
      generalize rowZ (rowTo n q ls j).1 j = z at *
      generalize hz2 : rowZ (rowTo n q ls (j + 1)).1 (j + 1) = z2 at *
      generalize (addS (rowTo n q ls j).2 (clos n (stp n j q))).1 = x at *
      have b1 := row_noTup z
      have b2 := row_cells z
      have b3 := row_aggQ z
      have hob : (D.agg (List.take (j * 1) (List.map (D.int .i64) z) ++ [D.int .i64 x] ++ List.drop (j * 1 + 1) (List.map (D.int .i64) z))) = rowD z2 := by
        rw [← hz9, Nat.mul_one]; simp [rowD, List.map_append, List.map_take, List.map_drop]
      have hl8 := lt_of_hget h83
      have q0 : hget (H3.set r8 (.arr [rowD z2])) 0 = _ := (hget_set_ne hr0).trans h03
      have q1 : hget (H3.set r8 (.arr [rowD z2])) 1 = _ := (hget_set_ne hr1).trans h13
      have q8 : hget (H3.set r8 (.arr [rowD z2])) r8 = .arr [rowD z2] := hget_set_eq hl8
      have qd : DkAt 3 2 n nx (rowTo n q ls (j + 1)).2 ds3 (H3.set r8 (.arr [rowD z2])) := hd3.keep (by simp) fun r hr => hget_set_ne fun e => hn83 (e ▸ hr)
      simp -dsimp (maxSteps:=999999) (disch:=omega) only[go_sem,simprocAttr, *]
      clear hob hz9 b1 b2 b3 hd3
      generalize H3.set r8 (.arr [rowD z2]) = H4 at *
      repeat' (first | refine wz1 ?_ | refine wz2 ?_ | refine wz3 ?_ | refine wz4 ?_ | refine wz5 ?_ | refine wz6 ?_ | simp -dsimp (maxSteps:=999999) (disch:=omega) only[go_sem,simprocAttr, *] | ((first | refine wz8 (fun hh => ?_) (fun hh => ?_) | refine wz9 (fun hh => ?_) (fun hh => ?_) | refine wz7 (fun hh => ?_) (fun hh => ?_)) <;> (try replace hh := vqs hh) <;> (try (exfalso; first | exact hh | omega))))
      refine hR2 _ _ ⟨j + 1, ds3, by omega, qd, q0, q1, by rw [hz2]; exact q8, hn03, hn13, hn83, gs, gs, gs, gs, gs, gs⟩ ?_
      simp -dsimp (maxSteps:=999999) (disch:=omega) only[go_sem,simprocAttr, *,natOf_int]
    · obtain rfl : j = 16 := by omega
      have hlen := fun HH => vec_len (e := 23) (hd.ms.v 2 (by simp)) HH
      simp only [List.getD_cons_zero, List.getD_cons_succ, List.length_map] at hlen
      by_cases hbig : 200 < (rowTo n q ls 16).2.length
      · rw [if_pos hbig] at hG
        subst hG
        have hl0 := lt_of_hget h0
        clear hlen2 hold hgood hI hIs hd hlj
        repeat' (first | refine wz1 ?_ | refine wz2 ?_ | refine wz3 ?_ | refine wz4 ?_ | refine wz5 ?_ | refine wz6 ?_ | simp -dsimp (maxSteps:=999999) (disch:=omega) only[go_sem,simprocAttr, *,bdD0] | ((first | refine wz8 (fun hh => ?_) (fun hh => ?_) | refine wz9 (fun hh => ?_) (fun hh => ?_) | refine wpB_cond (by simp -dsimp (maxSteps:=999999) (disch:=omega) only[go_sem,simprocAttr, *,bdD0]; exact rfl) (fun hh => ?_) (fun hh => ?_)) <;> (try replace hh := vqs hh) <;> (try (exfalso; first | exact hh | omega))))
        exact outPure_strip rfl
      · rw [if_neg hbig] at hG
        have hz8 : rowZ (rowTo n q ls 16).1 16 = (rowTo n q ls 16).1 := by simp [rowZ]
        rw [hz8] at h8
        have hr16 := hlj.1
        have hnl := hI.len
        clear hlen2 hold hgood hz8
        generalize hrow : (rowTo n q ls 16).1 = row at *
        generalize hls2 : (rowTo n q ls 16).2 = ls2 at *
        have b1 := row_noTup row
        have b2 := row_cells row
        have b3 := row_aggQ row
        obtain ⟨d4, H4, a4, m4, M4, l4, k4, f4, p1, p2, p3⟩ := hd.ms.app (p := 0) (by simp) (H1 := Hj ++ [.arr [rowD row]]) el22 sz49 by49 zrR7 rfl (by decide) (by simp) (fun r hr => hget_app_lt hr) (add_new (.inl (strip_row row))) (by rw [row_cells]; simp [hr16]) (headRows nx (fun r hr => by
          obtain ⟨j, hj, rfl⟩ := List.mem_iff_getElem.1 hr
          have := (hI.row j (by omega)).1
          rwa [List.getD_eq_getElem?_getD, List.getElem?_eq_getElem hj] at this)) (by simp; have := hI.le; omega)
        simp only [List.set_cons_zero, List.set_cons_succ, List.getD_cons_zero, List.getD_cons_succ] at m4 a4 k4
        simp only [List.length_append, List.length_cons, List.length_nil] at l4
        have hM4 := M4.trans hM
        have w4 := m4.m
        have hrl := hd.rl
        have ro : ∀ i, 2 ∉ objsD ([d4, dR, dS].getD i ud) := fun i hi => by
          match i, hi with
          | 0, hi => have := f4 2 (by simpa using hi); omega
          | 1, hi => exact hd.ro 1 hi
          | 2, hi => exact hd.ro 2 hi
          | i + 3, hi => simp [ud, objsD] at hi
        have no : ∀ r, r < Hj.length → ¬ own (dkL 3 2 [dN, dR, dS]) r → ¬ own (dkL 3 2 [d4, dR, dS]) r := fun r hr hn ⟨i, hi⟩ => by
          match i, hi with
          | 0, hi => exact hn ⟨0, hi⟩
          | 1, hi => exact hn ⟨1, hi⟩
          | 2, hi => have := f4 r (by simpa using hi); omega
          | 3, hi => exact hn ⟨3, hi⟩
          | 4, hi => exact hn ⟨4, hi⟩
          | i + 5, hi => simp [ud, objsD] at hi
        have hsame : ∀ r ob, r < Hj.length → ¬ own (dkL 3 2 [dN, dR, dS]) r → hget (H4.set 3 ob) r = hget Hj r := fun r ob hr hn => by
          rw [hget_set_ne (fun e => hn ⟨0, by simp [objsD, e]⟩), k4 r hr (fun h => hn ⟨2, h⟩)]
        have hD : DkAt 3 2 n (nx ++ [row]) ls2 [d4, dR, dS] (H4.set 3 (.arr [.agg [.sl false (n.free.map isD), .sl false (n.set.map (.int .u16)), .sl false (n.to.map (.int .i64)), .sl false (n.rule.map (.int .i64)), d4, dR, .map 2, dS]])) := by
          refine ⟨by simpa using m4.setM _, by rw [hget_set_eq w4]; rfl, ?_, hd.rM, ro, by simp; omega⟩
          rw [hget_set_ne (by omega), k4 2 hrl (hd.ro 0), hd.hm]
        have q0 := (hsame 0 (.arr [.agg [.sl false (n.free.map isD), .sl false (n.set.map (.int .u16)), .sl false (n.to.map (.int .i64)), .sl false (n.rule.map (.int .i64)), d4, dR, .map 2, dS]]) (lt_of_hget h0) hn0).trans h0
        have q1 := (hsame 1 (.arr [.agg [.sl false (n.free.map isD), .sl false (n.set.map (.int .u16)), .sl false (n.to.map (.int .i64)), .sl false (n.rule.map (.int .i64)), d4, dR, .map 2, dS]]) (lt_of_hget h1) hn1).trans h1
        have n0 := no 0 (lt_of_hget h0) hn0
        have n1 := no 1 (lt_of_hget h1) hn1
        have hr8l := lt_of_hget h8
        have hsr : stripL [rowD row] = some [rowD row] := strip1 (strip_row row)
        have hne3 : Hj.length ≠ 3 := by have := hd.ms.m; omega
        clear hsame no ro k4 f4 m4 hd l4 hI hlj M4
        repeat' (first | refine wz1 ?_ | refine wz2 ?_ | refine wz3 ?_ | refine wz4 ?_ | refine wz5 ?_ | refine wz6 ?_ | simp -dsimp (maxSteps:=999999) (disch:=omega) only[go_sem,simprocAttr, *] | ((first | refine wz8 (fun hh => ?_) (fun hh => ?_) | refine wz9 (fun hh => ?_) (fun hh => ?_) | refine wz7 (fun hh => ?_) (fun hh => ?_)) <;> (try replace hh := vqs hh) <;> (try (exfalso; first | exact hh | omega))))
        refine wpB_regionXL (prs := [([71], [68])]) (by kernel_rfl) rfl (by kernel_rfl) ?_; simp -dsimp (maxSteps:=999999) (disch:=omega) only[go_sem,simprocAttr, *]
        refine ⟨rfl, ?_⟩
        generalize H4.set 3 (.arr [.agg [.sl false (n.free.map isD), .sl false (n.set.map (.int .u16)), .sl false (n.to.map (.int .i64)), .sl false (n.rule.map (.int .i64)), d4, dR, .map 2, dS]]) = J at *
        repeat' (first | refine wz1 ?_ | refine wz2 ?_ | refine wz3 ?_ | refine wz4 ?_ | refine wz5 ?_ | refine wz6 ?_ | simp -dsimp (maxSteps:=999999) (disch:=omega) only[go_sem,simprocAttr, *] | ((first | refine wz8 (fun hh => ?_) (fun hh => ?_) | refine wz9 (fun hh => ?_) (fun hh => ?_) | refine wz7 (fun hh => ?_) (fun hh => ?_)) <;> (try replace hh := vqs hh) <;> (try (exfalso; first | exact hh | omega))))
        refine hR _ _ ⟨k, i + 1, ls2, nx ++ [row], _, by omega, hIs, by omega, hD, q0, q1, n0, n1, hG, gs, gs, gs, gs⟩ ?_
        simp -dsimp (maxSteps:=999999) (disch:=omega) only[go_sem,simprocAttr, *,natOf_int]
end Go.Proofs.W
end
/- Whether expressions are more than are looked at, in the chapter on machines without free steps. -/
section
set_option maxHeartbeats 4000000
set_option linter.unusedVariables false
set_option linter.unusedSimpArgs false
namespace Go.Proofs.W
open Go Vm Go.Proofs.Zs07

def sum7 (l : List Rx) : Nat := (l.map fun r => if rightR r then nodesR r else 0).sum
theorem sum7_app (l : List Rx) (r : Rx) : sum7 (l ++ [r]) = sum7 l + if rightR r then nodesR r else 0 := by simp [sum7]
def great7 (l : List Rx) : Bool := (l.take 17).any (greatR 20) || (decide (20 < l.length) || decide (120 < sum7 (l.take 17)))
theorem right_nodes {r : Rx} (h : rightR r = true) : depth r ≤ 12 ∧ nodesR r ≤ 100 := by
  simp only [rightR, Bool.and_eq_true, decide_eq_true_eq] at h
  exact h.1
theorem great7_ok (l : List Rx) (hok : ∀ r ∈ l, greatR 20 r = false → okR r) : PureF Tryd.prog A 14 [rxsD l] (.bool (great7 l)) := by
  refine evF_inB (n := 39) (rs := [.tmp 2]) Tryd.func14 rfl rfl rfl rfl rfl rfl ?_
  generalize hG : great7 l = G
  repeat' (first | refine wz1 ?_ | refine wz2 ?_ | refine wz3 ?_ | refine wz4 ?_ | refine wz5 ?_ | refine wz6 ?_ | simp -dsimp (maxSteps:=999999) (disch:=omega) only[go_sem,simprocAttr, *,rxsD] | ((first | refine wz8 (fun hh => ?_) (fun hh => ?_) | refine wz9 (fun hh => ?_) (fun hh => ?_) | refine wpB_cond (by simp -dsimp (maxSteps:=999999) (disch:=omega) only[go_sem,simprocAttr, *,rxsD]; exact rfl) (fun hh => ?_) (fun hh => ?_)) <;> (try replace hh := vqs hh) <;> (try (exfalso; first | exact hh | omega))))
  refine wpB_loop (fun e H => ∃ j : Nat, j ≤ l.length ∧ j ≤ 17 ∧ e 0 = rxsD l ∧ e 3 = .int .i64 (sum7 (l.take j)) ∧ e 4 = .int .i64 j ∧ sum7 (l.take j) ≤ 100 * j ∧ (l.take j).any (greatR 20) = false) (fun e H => 17 - natOf (e 4)) ?_ ?_
  · exact ⟨0, by omega, by omega, by simp -dsimp (maxSteps:=999999) (disch:=omega) only[go_sem,simprocAttr, *,rxsD], by rw [show sum7 (l.take 0) = 0 from rfl]; simp -dsimp (maxSteps:=999999) (disch:=omega) only[go_sem,simprocAttr, *], gs, by simp [sum7], by simp⟩
  rintro e H ⟨j, hj, hj2, e0, e3, e4, hs, hg⟩ R hR
  by_cases hb : j < l.length ∧ j < 17
  · obtain ⟨hb, hb2⟩ := hb
    have hx : (rxDs l)[j]? = some (rxD l[j]) := by rw [rxDs_at, List.getElem?_eq_getElem hb]; rfl
    have q1 := rx_cells l[j]
    have q2 := rx_aggQ l[j]
    have q3 := rx_noTup l[j]
    have hgr := great_ok 20 (by omega) l[j]
    have hst := strip2 (strip_rx l[j]) (strip_int (k := .i64) (n := 20))
    have hst1 := strip1 (strip_rx l[j])
    have htk : l.take (j + 1) = l.take j ++ [l[j]] := take_succ' hb
    have hok1 := hok l[j] (List.getElem_mem hb)
    have hG1 : greatR 20 l[j] = true → G = true := fun h => by
      rw [← hG, great7]
      have : (l.take 17).any (greatR 20) = true := List.any_eq_true.2 ⟨l[j], List.mem_of_getElem? (i := j) (by rw [List.getElem?_take_of_lt hb2, List.getElem?_eq_getElem hb]), h⟩
      rw [this]; rfl
    have hR1 := fun h => right_ok l[j] (hok1 h)
    have hN1 := fun h (h2 : rightR l[j] = true) => nodes_ok 12 l[j] (hok1 h) (right_nodes h2).1 (by omega)
    have hN2 := fun (h2 : rightR l[j] = true) => (right_nodes h2).2
    have hsum : sum7 (l.take (j + 1)) = sum7 (l.take j) + if rightR l[j] then nodesR l[j] else 0 := by rw [htk, sum7_app]
    have hany : greatR 20 l[j] = false → (l.take (j + 1)).any (greatR 20) = false := fun h => by rw [htk, List.any_append, hg]; simp [h]
    rw [show ((20 : Nat) : Int) = 20 from rfl] at hgr
    clear hok1 hok hg htk hG
    generalize hS : sum7 (l.take j) = s at *
    generalize hrx : l[j] = rx at *
    generalize hdk : rxD rx = dk at *
    repeat' (first | refine wz1 ?_ | refine wz2 ?_ | refine wz3 ?_ | refine wz4 ?_ | refine wz5 ?_ | refine wz6 ?_ | simp -dsimp (maxSteps:=999999) (disch:=omega) only[go_sem,simprocAttr, *,rxsD] | ((first | refine wz8 (fun hh => ?_) (fun hh => ?_) | refine wz9 (fun hh => ?_) (fun hh => ?_) | refine wpB_cond (by simp -dsimp (maxSteps:=999999) (disch:=omega) only[go_sem,simprocAttr, *,rxsD]; exact rfl) (fun hh => ?_) (fun hh => ?_)) <;> (try replace hh := vqs hh) <;> (try (exfalso; first | exact hh | omega))))
    refine evB_plain bo19 rfl rfl hst hgr ?_
    cases hq : greatR 20 rx with
    | true =>
      rw [hG1 hq]
      repeat' (first | refine wz1 ?_ | refine wz2 ?_ | refine wz3 ?_ | refine wz4 ?_ | refine wz5 ?_ | refine wz6 ?_ | simp -dsimp (maxSteps:=999999) (disch:=omega) only[go_sem,simprocAttr, *] | ((first | refine wz8 (fun hh => ?_) (fun hh => ?_) | refine wz9 (fun hh => ?_) (fun hh => ?_) | refine wz7 (fun hh => ?_) (fun hh => ?_)) <;> (try replace hh := vqs hh) <;> (try (exfalso; first | exact hh | omega))))
    | false =>
      replace hR1 := hR1 hq
      replace hN1 := hN1 hq
      replace hany := hany hq
      clear hG1
      repeat' (first | refine wz1 ?_ | refine wz2 ?_ | refine wz3 ?_ | refine wz4 ?_ | refine wz5 ?_ | refine wz6 ?_ | simp -dsimp (maxSteps:=999999) (disch:=omega) only[go_sem,simprocAttr, *,rxsD] | ((first | refine wz8 (fun hh => ?_) (fun hh => ?_) | refine wz9 (fun hh => ?_) (fun hh => ?_) | refine wpB_cond (by simp -dsimp (maxSteps:=999999) (disch:=omega) only[go_sem,simprocAttr, *,rxsD]; exact rfl) (fun hh => ?_) (fun hh => ?_)) <;> (try replace hh := vqs hh) <;> (try (exfalso; first | exact hh | omega))))
      refine evB_plain bo20 rfl rfl hst1 hR1 ?_
      cases hrt : rightR rx with
      | false =>
        rw [hrt] at hsum
        simp only [Bool.false_eq_true, if_false, Nat.add_zero] at hsum
        clear hN1 hN2
        repeat' (first | refine wz1 ?_ | refine wz2 ?_ | refine wz3 ?_ | refine wz4 ?_ | refine wz5 ?_ | refine wz6 ?_ | simp -dsimp (maxSteps:=999999) (disch:=omega) only[go_sem,simprocAttr, *] | ((first | refine wz8 (fun hh => ?_) (fun hh => ?_) | refine wz9 (fun hh => ?_) (fun hh => ?_) | refine wz7 (fun hh => ?_) (fun hh => ?_)) <;> (try replace hh := vqs hh) <;> (try (exfalso; first | exact hh | omega))))
        refine hR _ _ ⟨j + 1, by omega, by omega, by simp -dsimp (maxSteps:=999999) (disch:=omega) only[go_sem,simprocAttr, *,rxsD], by rw [hsum]; simp -dsimp (maxSteps:=999999) (disch:=omega) only[go_sem,simprocAttr, *], gs, by omega, hany⟩ ?_
        simp -dsimp (maxSteps:=999999) (disch:=omega) only[go_sem,simprocAttr, *,natOf_int]
      | true =>
        replace hN1 := hN1 hrt
        replace hN2 := hN2 hrt
        rw [hrt] at hsum
        simp only [if_true] at hsum
        repeat' (first | refine wz1 ?_ | refine wz2 ?_ | refine wz3 ?_ | refine wz4 ?_ | refine wz5 ?_ | refine wz6 ?_ | simp -dsimp (maxSteps:=999999) (disch:=omega) only[go_sem,simprocAttr, *,rxsD] | ((first | refine wz8 (fun hh => ?_) (fun hh => ?_) | refine wz9 (fun hh => ?_) (fun hh => ?_) | refine wpB_cond (by simp -dsimp (maxSteps:=999999) (disch:=omega) only[go_sem,simprocAttr, *,rxsD]; exact rfl) (fun hh => ?_) (fun hh => ?_)) <;> (try replace hh := vqs hh) <;> (try (exfalso; first | exact hh | omega))))
        refine evB_plain bo21 rfl rfl hst1 hN1 ?_
        repeat' (first | refine wz1 ?_ | refine wz2 ?_ | refine wz3 ?_ | refine wz4 ?_ | refine wz5 ?_ | refine wz6 ?_ | simp -dsimp (maxSteps:=999999) (disch:=omega) only[go_sem,simprocAttr, *] | ((first | refine wz8 (fun hh => ?_) (fun hh => ?_) | refine wz9 (fun hh => ?_) (fun hh => ?_) | refine wz7 (fun hh => ?_) (fun hh => ?_)) <;> (try replace hh := vqs hh) <;> (try (exfalso; first | exact hh | omega))))
        refine hR _ _ ⟨j + 1, by omega, by omega, by simp -dsimp (maxSteps:=999999) (disch:=omega) only[go_sem,simprocAttr, *,rxsD], by rw [hsum]; simp -dsimp (maxSteps:=999999) (disch:=omega) only[go_sem,simprocAttr, *], gs, by omega, hany⟩ ?_
        simp -dsimp (maxSteps:=999999) (disch:=omega) only[go_sem,simprocAttr, *,natOf_int]
  · have htk : l.take 17 = l.take j := by
      rcases Nat.lt_or_ge j 17 with h | h
      · rw [List.take_of_length_le (by omega), List.take_of_length_le (by omega)]
      · rw [show j = 17 by omega]
    have hz : G = (decide (20 < l.length) || decide (120 < sum7 (l.take j))) := by
      rw [← hG, great7, htk, hg]; rfl
    clear hG hg htk hok
    generalize sum7 (l.take j) = s at *
    by_cases h1 : 20 < l.length
    · have : G = true := by rw [hz]; simp; omega
      rw [this]
      clear hz
      repeat' (first | refine wz1 ?_ | refine wz2 ?_ | refine wz3 ?_ | refine wz4 ?_ | refine wz5 ?_ | refine wz6 ?_ | simp -dsimp (maxSteps:=999999) (disch:=omega) only[go_sem,simprocAttr, *,rxsD] | ((first | refine wz8 (fun hh => ?_) (fun hh => ?_) | refine wz9 (fun hh => ?_) (fun hh => ?_) | refine wpB_cond (by simp -dsimp (maxSteps:=999999) (disch:=omega) only[go_sem,simprocAttr, *,rxsD]; exact rfl) (fun hh => ?_) (fun hh => ?_)) <;> (try replace hh := vqs hh) <;> (try (exfalso; first | exact hh | omega))))
    · by_cases h2 : 120 < s
      · have : G = true := by rw [hz]; simp; omega
        rw [this]
        clear hz
        repeat' (first | refine wz1 ?_ | refine wz2 ?_ | refine wz3 ?_ | refine wz4 ?_ | refine wz5 ?_ | refine wz6 ?_ | simp -dsimp (maxSteps:=999999) (disch:=omega) only[go_sem,simprocAttr, *,rxsD] | ((first | refine wz8 (fun hh => ?_) (fun hh => ?_) | refine wz9 (fun hh => ?_) (fun hh => ?_) | refine wpB_cond (by simp -dsimp (maxSteps:=999999) (disch:=omega) only[go_sem,simprocAttr, *,rxsD]; exact rfl) (fun hh => ?_) (fun hh => ?_)) <;> (try replace hh := vqs hh) <;> (try (exfalso; first | exact hh | omega))))
      · have : G = false := by rw [hz]; simp; omega
        rw [this]
        clear hz
        repeat' (first | refine wz1 ?_ | refine wz2 ?_ | refine wz3 ?_ | refine wz4 ?_ | refine wz5 ?_ | refine wz6 ?_ | simp -dsimp (maxSteps:=999999) (disch:=omega) only[go_sem,simprocAttr, *,rxsD] | ((first | refine wz8 (fun hh => ?_) (fun hh => ?_) | refine wz9 (fun hh => ?_) (fun hh => ?_) | refine wpB_cond (by simp -dsimp (maxSteps:=999999) (disch:=omega) only[go_sem,simprocAttr, *,rxsD]; exact rfl) (fun hh => ?_) (fun hh => ?_)) <;> (try replace hh := vqs hh) <;> (try (exfalso; first | exact hh | omega))))
theorem great7_len {l : List Rx} (h : great7 l = false) : l.length ≤ 20 ∧ (l.length ≤ 16 → ∀ r ∈ l, greatR 20 r = false) := by
  simp only [great7, Bool.or_eq_false_iff, decide_eq_false_iff_not] at h
  refine ⟨by omega, fun hl r hr => ?_⟩
  have := h.1
  rw [List.take_of_length_le (by omega)] at this
  simpa using List.any_eq_false.1 this r hr
end Go.Proofs.W
end
/- The law on matches of machines without free steps. -/
section
set_option maxHeartbeats 4000000
set_option linter.unusedVariables false
set_option linter.unusedSimpArgs false
namespace Go.Proofs.W
open Go Vm Go.Proofs.Zs07

theorem zrD6 : zeroT Tryd.prog 25 = some (.agg [.sl true [], .sl true []]) := by kernel_rfl
theorem matches_law (l : List Rx) (hok : ∀ r ∈ l, greatR 20 r = false → okR r) (w : List Int) : Yes 4 [rxsD l, isD w] := by
  have ew : isD w = .sl false (w.map (.int .i64)) := rfl
  refine evF_inB (n := 81) (rs := [.tmp 4]) Tryd.func4 rfl rfl rfl rfl rfl rfl ?_
  repeat' (first | refine wz1 ?_ | refine wz2 ?_ | refine wz3 ?_ | refine wz4 ?_ | refine wz5 ?_ | refine wz6 ?_ | simp -dsimp (maxSteps:=999999) (disch:=omega) only[go_sem,simprocAttr, *] | ((first | refine wz8 (fun hh => ?_) (fun hh => ?_) | refine wz9 (fun hh => ?_) (fun hh => ?_) | refine wz7 (fun hh => ?_) (fun hh => ?_)) <;> (try replace hh := vqs hh) <;> (try (exfalso; first | exact hh | omega))))
  refine evB_plain bo6 rfl rfl rfl alive_ok ?_
  repeat' (first | refine wz1 ?_ | refine wz2 ?_ | refine wz3 ?_ | refine wz4 ?_ | refine wz5 ?_ | refine wz6 ?_ | simp -dsimp (maxSteps:=999999) (disch:=omega) only[go_sem,simprocAttr, *] | ((first | refine wz8 (fun hh => ?_) (fun hh => ?_) | refine wz9 (fun hh => ?_) (fun hh => ?_) | refine wz7 (fun hh => ?_) (fun hh => ?_)) <;> (try replace hh := vqs hh) <;> (try (exfalso; first | exact hh | omega))))
  refine evB_plain bo14 rfl rfl (strip_rxsD' l) (great7_ok l hok) ?_
  cases hg : great7 l with
  | true => repeat' (first | refine wz1 ?_ | refine wz2 ?_ | refine wz3 ?_ | refine wz4 ?_ | refine wz5 ?_ | refine wz6 ?_ | simp -dsimp (maxSteps:=999999) (disch:=omega) only[go_sem,simprocAttr, *] | ((first | refine wz8 (fun hh => ?_) (fun hh => ?_) | refine wz9 (fun hh => ?_) (fun hh => ?_) | refine wz7 (fun hh => ?_) (fun hh => ?_)) <;> (try replace hh := vqs hh) <;> (try (exfalso; first | exact hh | omega))))
  | false =>
    obtain ⟨h20, h16⟩ := great7_len hg
    have hr : l.length ≤ 16 → ∀ r ∈ l, okR r := fun h r hr => hok r hr (h16 h r hr)
    have hB := dbuild_ok l hr (by omega)
    clear hok hg h16
    by_cases hw : w.length ≤ 10
    case neg => repeat' (first | refine wz1 ?_ | refine wz2 ?_ | refine wz3 ?_ | refine wz4 ?_ | refine wz5 ?_ | refine wz6 ?_ | simp -dsimp (maxSteps:=999999) (disch:=omega) only[go_sem,simprocAttr, *] | ((first | refine wz8 (fun hh => ?_) (fun hh => ?_) | refine wz9 (fun hh => ?_) (fun hh => ?_) | refine wz7 (fun hh => ?_) (fun hh => ?_)) <;> (try replace hh := vqs hh) <;> (try (exfalso; first | exact hh | omega))))
    have shut : ∀ x : Dfa × Int, dbuild l = x → (x.2 = 1 ∨ x.2 = 7) ∨ ∃ n ls nx, buildN l = some n ∧ DoneI n ls.length ls nx ∧ ls.length ≤ 200 ∧ x = (mkDfa n ls nx, 0) := by
      intro x hx
      unfold dbuild at hx
      cases hb : buildN l with
      | none => rw [hb] at hx; subst hx; exact .inl (.inl rfl)
      | some n =>
        rw [hb] at hx
        simp only at hx
        cases hq : runB n 202 0 [clos n [0]] [] with
        | none => rw [hq] at hx; subst hx; exact .inl (.inr rfl)
        | some p =>
          obtain ⟨ls, nx⟩ := p
          rw [hq] at hx
          subst hx
          obtain ⟨-, -, g3, -⟩ := build_right hb
          have hrr := right_row g3
          obtain ⟨k1, k2⟩ := runB_done _ _ _ _ _ _ (done_zero (clos_zero (by omega))) (by simp) hq
          exact .inr ⟨n, ls, nx, rfl, k1, k2, rfl⟩
    generalize hx : dbuild l = x at hB
    rcases shut x hx with hx2 | ⟨n, ls, nx, hb, hd, hl2, rfl⟩
    · obtain ⟨d, e⟩ := x
      have a1 := dfa_noTup d
      have a2 := dfa_cells d
      have a3 := dfa_aggQ d
      simp only at hx2
      have he : e ≠ 0 := by omega
      clear hx2 shut hx
      repeat' (first | refine wz1 ?_ | refine wz2 ?_ | refine wz3 ?_ | refine wz4 ?_ | refine wz5 ?_ | refine wz6 ?_ | simp -dsimp (maxSteps:=999999) (disch:=omega) only[go_sem,simprocAttr, *] | ((first | refine wz8 (fun hh => ?_) (fun hh => ?_) | refine wz9 (fun hh => ?_) (fun hh => ?_) | refine wz7 (fun hh => ?_) (fun hh => ?_)) <;> (try replace hh := vqs hh) <;> (try (exfalso; first | exact hh | omega))))
      refine evB_plain bo15 rfl rfl (strip_rxsD' l) hB ?_
      repeat' (first | refine wz1 ?_ | refine wz2 ?_ | refine wz3 ?_ | refine wz4 ?_ | refine wz5 ?_ | refine wz6 ?_ | simp -dsimp (maxSteps:=999999) (disch:=omega) only[go_sem,simprocAttr, *,dbD, zrD6] | ((first | refine wz8 (fun hh => ?_) (fun hh => ?_) | refine wz9 (fun hh => ?_) (fun hh => ?_) | refine wpB_cond (by simp -dsimp (maxSteps:=999999) (disch:=omega) only[go_sem,simprocAttr, *,dbD, zrD6]; exact rfl) (fun hh => ?_) (fun hh => ?_)) <;> (try replace hh := vqs hh) <;> (try (exfalso; first | exact hh | omega))))
    · obtain ⟨-, -, g3, g4⟩ := build_right hb
      obtain ⟨hp, hrt⟩ := buildN_pre hb
      replace hr := hr g4
      have hrd := mk_right g3 hd hl2
      have hty := mk_ty hd
      have hM := fun w => (mk_match g3 hd hl2 w).trans (match_first hp hrt g3 w)
      have hlong := long_last hrd hty w
      rw [show (fun m => matchD (mkDfa n ls nx) (w.take m)) = (fun m => firstZ (w.take m) l 0) from funext fun m => hM _] at hlong
      have hdl := right_len hrd
      generalize mkDfa n ls nx = d at *
      clear shut hx hd
      have a1 := dfa_noTup d
      have a2 := dfa_cells d
      have a3 := dfa_aggQ d
      have hLo := dlong_ok d w 0 hty (by omega) (by omega) (by omega)
      rw [hlong] at hLo
      have hMa := fun m => dmatch_ok d (w.take m) hty (by omega) (by omega) (by rw [List.length_take]; omega)
      have hMa2 : ∀ m, PureF Tryd.prog A 11 [dfaD d, isD (w.take m)] (.int .i64 (firstZ (w.take m) l 0)) := fun m => by
        have := hMa m
        rwa [hM] at this
      clear hMa hM hlong
      repeat' (first | refine wz1 ?_ | refine wz2 ?_ | refine wz3 ?_ | refine wz4 ?_ | refine wz5 ?_ | refine wz6 ?_ | simp -dsimp (maxSteps:=999999) (disch:=omega) only[go_sem,simprocAttr, *] | ((first | refine wz8 (fun hh => ?_) (fun hh => ?_) | refine wz9 (fun hh => ?_) (fun hh => ?_) | refine wz7 (fun hh => ?_) (fun hh => ?_)) <;> (try replace hh := vqs hh) <;> (try (exfalso; first | exact hh | omega))))
      refine evB_plain bo15 rfl rfl (strip_rxsD' l) hB ?_
      repeat' (first | refine wz1 ?_ | refine wz2 ?_ | refine wz3 ?_ | refine wz4 ?_ | refine wz5 ?_ | refine wz6 ?_ | simp -dsimp (maxSteps:=999999) (disch:=omega) only[go_sem,simprocAttr, *,dbD, zrD6] | ((first | refine wz8 (fun hh => ?_) (fun hh => ?_) | refine wz9 (fun hh => ?_) (fun hh => ?_) | refine wpB_cond (by simp -dsimp (maxSteps:=999999) (disch:=omega) only[go_sem,simprocAttr, *,dbD, zrD6]; exact rfl) (fun hh => ?_) (fun hh => ?_)) <;> (try replace hh := vqs hh) <;> (try (exfalso; first | exact hh | omega))))
      refine wpB_loop (fun e H => ∃ (m : Nat) (x y : Int), m ≤ w.length + 1 ∧ hget H 0 = .arr [dfaD d] ∧ e 0 = rxsD l ∧ e 1 = isD w ∧ e 5 = .ptr 0 0 0 ∧ e 7 = .int .i64 x ∧ e 8 = .int .i64 y ∧ e 9 = .int .i64 m ∧ (x, y) = lastP (fun m => firstZ (w.take m) l 0) (m - 1)) (fun e H => w.length + 1 - natOf (e 9)) ?_ ?_
      · exact ⟨0, -1, -1, by omega, gs, gs, gs, gs, gs, gs, gs, rfl⟩
      rintro e H ⟨m, x, y, hm, h0, e0, e1, e5, e7, e8, e9, hxy⟩ R hR
      by_cases hb : m ≤ w.length
      case neg =>
        obtain rfl : m = w.length + 1 := by omega
        rw [Nat.add_sub_cancel] at hxy
        rw [← hxy] at hLo
        repeat' (first | refine wz1 ?_ | refine wz2 ?_ | refine wz3 ?_ | refine wz4 ?_ | refine wz5 ?_ | refine wz6 ?_ | simp -dsimp (maxSteps:=999999) (disch:=omega) only[go_sem,simprocAttr, *] | ((first | refine wz8 (fun hh => ?_) (fun hh => ?_) | refine wz9 (fun hh => ?_) (fun hh => ?_) | refine wz7 (fun hh => ?_) (fun hh => ?_)) <;> (try replace hh := vqs hh) <;> (try (exfalso; first | exact hh | omega))))
        refine evB_plain bo7 rfl rfl (stripDwi d w 0) hLo ?_
        repeat' (first | refine wz1 ?_ | refine wz2 ?_ | refine wz3 ?_ | refine wz4 ?_ | refine wz5 ?_ | refine wz6 ?_ | simp -dsimp (maxSteps:=999999) (disch:=omega) only[go_sem,simprocAttr, *,pairD] | ((first | refine wz8 (fun hh => ?_) (fun hh => ?_) | refine wz9 (fun hh => ?_) (fun hh => ?_) | refine wpB_cond (by simp -dsimp (maxSteps:=999999) (disch:=omega) only[go_sem,simprocAttr, *,pairD]; exact rfl) (fun hh => ?_) (fun hh => ?_)) <;> (try replace hh := vqs hh) <;> (try (exfalso; first | exact hh | omega))))
      have hMm := hMa2 m
      have hsD := stripDw d (w.take m)
      have et : isD (w.take m) = .sl false (List.take m (w.map (.int .i64))) := by rw [← List.map_take]; rfl
      have hhd := headInts w
      have hlast : lastP (fun m => firstZ (w.take m) l 0) (m + 1 - 1) = if 0 < m ∧ 0 ≤ firstZ (w.take m) l 0 then ((m : Int), firstZ (w.take m) l 0) else (x, y) := by
        rw [hxy, Nat.add_sub_cancel]
        cases m with
        | zero => rfl
        | succ m =>
          rw [lastP, Nat.add_sub_cancel]
          by_cases hc : 0 ≤ firstZ (w.take (m + 1)) l 0
          · rw [if_pos hc, if_pos ⟨by omega, hc⟩]
          · rw [if_neg hc, if_neg (fun h => hc h.2)]
      clear hxy
      repeat' (first | refine wz1 ?_ | refine wz2 ?_ | refine wz3 ?_ | refine wz4 ?_ | refine wz5 ?_ | refine wz6 ?_ | simp -dsimp (maxSteps:=999999) (disch:=omega) only[go_sem,simprocAttr, *,rxsD] | ((first | refine wz8 (fun hh => ?_) (fun hh => ?_) | refine wz9 (fun hh => ?_) (fun hh => ?_) | refine wpB_cond (by simp -dsimp (maxSteps:=999999) (disch:=omega) only[go_sem,simprocAttr, *,rxsD]; exact rfl) (fun hh => ?_) (fun hh => ?_)) <;> (try replace hh := vqs hh) <;> (try (exfalso; first | exact hh | omega))))
      refine wpB_loop (fun e H => ∃ j : Nat, j ≤ l.length ∧ hget H 0 = .arr [dfaD d] ∧ e 0 = rxsD l ∧ e 1 = isD w ∧ e 5 = .ptr 0 0 0 ∧ e 7 = .int .i64 x ∧ e 8 = .int .i64 y ∧ e 9 = .int .i64 m ∧ e 10 = .int .i64 (firstZ (w.take m) (l.drop j) j) ∧ e 11 = .int .i64 ((j : Int) - 1)) (fun e H => (natOf (match e 11 with | .int k x => .int k (x + 1) | d => d))) ?_ ?_
      · exact ⟨l.length, by omega, gs, by simp -dsimp (maxSteps:=999999) (disch:=omega) only[go_sem,simprocAttr, *,rxsD], gs, gs, gs, gs, gs, by rw [List.drop_eq_nil_of_le (by omega)]; simp -dsimp (maxSteps:=999999) (disch:=omega) only[go_sem,simprocAttr, *,firstZ], by simp -dsimp (maxSteps:=999999) (disch:=omega) only[go_sem,simprocAttr, *,rxsD]⟩
      have e9o := e9
      clear e0 e1 e5 e7 e8 e9 h0
      rintro e H ⟨j, hj, h0, e0, e1, e5, e7, e8, e9, e10, e11⟩ R2 hR2
      cases j with
      | zero =>
        rw [List.drop_zero] at e10
        rw [et] at hMm hsD
        generalize hf : firstZ (w.take m) l 0 = f at *
        repeat' (first | refine wz1 ?_ | refine wz2 ?_ | refine wz3 ?_ | refine wz4 ?_ | refine wz5 ?_ | refine wz6 ?_ | simp -dsimp (maxSteps:=999999) (disch:=omega) only[go_sem,simprocAttr, *] | ((first | refine wz8 (fun hh => ?_) (fun hh => ?_) | refine wz9 (fun hh => ?_) (fun hh => ?_) | refine wz7 (fun hh => ?_) (fun hh => ?_)) <;> (try replace hh := vqs hh) <;> (try (exfalso; first | exact hh | omega))))
        refine wpB_regionXL (prs := []) (by kernel_rfl) rfl (by kernel_rfl) ?_; simp -dsimp (maxSteps:=999999) (disch:=omega) only[go_sem,simprocAttr, *]
        refine ⟨fun _ => rfl, evB_plain bo11 rfl rfl hsD hMm ?_⟩
        by_cases hc : 0 < m ∧ 0 ≤ f
        · rw [if_pos hc] at hlast
          obtain ⟨c1, c2⟩ := hc
          repeat' (first | refine wz1 ?_ | refine wz2 ?_ | refine wz3 ?_ | refine wz4 ?_ | refine wz5 ?_ | refine wz6 ?_ | simp -dsimp (maxSteps:=999999) (disch:=omega) only[go_sem,simprocAttr, *] | ((first | refine wz8 (fun hh => ?_) (fun hh => ?_) | refine wz9 (fun hh => ?_) (fun hh => ?_) | refine wz7 (fun hh => ?_) (fun hh => ?_)) <;> (try replace hh := vqs hh) <;> (try (exfalso; first | exact hh | omega))))
          refine hR _ _ ⟨m + 1, m, f, by omega, gs, by simp -dsimp (maxSteps:=999999) (disch:=omega) only[go_sem,simprocAttr, *,rxsD], gs, gs, gs, gs, gs, hlast.symm⟩ ?_
          simp -dsimp (maxSteps:=999999) (disch:=omega) only[go_sem,simprocAttr, *,natOf_int]
        · rw [if_neg hc] at hlast
          by_cases c2 : 0 ≤ f
          · have c1 : m ≤ 0 := by omega
            clear hc
            repeat' (first | refine wz1 ?_ | refine wz2 ?_ | refine wz3 ?_ | refine wz4 ?_ | refine wz5 ?_ | refine wz6 ?_ | simp -dsimp (maxSteps:=999999) (disch:=omega) only[go_sem,simprocAttr, *] | ((first | refine wz8 (fun hh => ?_) (fun hh => ?_) | refine wz9 (fun hh => ?_) (fun hh => ?_) | refine wz7 (fun hh => ?_) (fun hh => ?_)) <;> (try replace hh := vqs hh) <;> (try (exfalso; first | exact hh | omega))))
            refine hR _ _ ⟨m + 1, x, y, by omega, gs, by simp -dsimp (maxSteps:=999999) (disch:=omega) only[go_sem,simprocAttr, *,rxsD], gs, gs, gs, gs, gs, hlast.symm⟩ ?_
            simp -dsimp (maxSteps:=999999) (disch:=omega) only[go_sem,simprocAttr, *,natOf_int]
          · clear hc
            repeat' (first | refine wz1 ?_ | refine wz2 ?_ | refine wz3 ?_ | refine wz4 ?_ | refine wz5 ?_ | refine wz6 ?_ | simp -dsimp (maxSteps:=999999) (disch:=omega) only[go_sem,simprocAttr, *] | ((first | refine wz8 (fun hh => ?_) (fun hh => ?_) | refine wz9 (fun hh => ?_) (fun hh => ?_) | refine wz7 (fun hh => ?_) (fun hh => ?_)) <;> (try replace hh := vqs hh) <;> (try (exfalso; first | exact hh | omega))))
            refine hR _ _ ⟨m + 1, x, y, by omega, gs, by simp -dsimp (maxSteps:=999999) (disch:=omega) only[go_sem,simprocAttr, *,rxsD], gs, gs, gs, gs, gs, hlast.symm⟩ ?_
            simp -dsimp (maxSteps:=999999) (disch:=omega) only[go_sem,simprocAttr, *,natOf_int]
      | succ j =>
        clear hlast hMm hsD
        have hb1 : j < l.length := by omega
        have e11' : e 11 = .int .i64 (j : Int) := by rw [e11]; congr 1; omega
        have hx : (rxDs l)[j]? = some (rxD l[j]) := by rw [rxDs_at, List.getElem?_eq_getElem hb1]; rfl
        have q1 := rx_cells l[j]
        have q2 := rx_aggQ l[j]
        have q3 := rx_noTup l[j]
        have hH := hasP_ok (w.take m) (by rw [List.length_take]; omega) l[j] (hr _ (List.getElem_mem hb1)) (sizes hrt _ (List.getElem_mem hb1)).2
        have hst := strip2 (strip_rx l[j]) (strip_is (w.take m))
        have hfirst : firstZ (w.take m) (l.drop j) j = if hasR (w.take m) l[j] then (j : Int) else firstZ (w.take m) (l.drop (j + 1)) (j + 1) := by
          rw [List.drop_eq_getElem_cons hb1, firstZ]
        rw [et] at hH hst
        clear e11
        generalize rxD l[j] = dk at *
        repeat' (first | refine wz1 ?_ | refine wz2 ?_ | refine wz3 ?_ | refine wz4 ?_ | refine wz5 ?_ | refine wz6 ?_ | simp -dsimp (maxSteps:=999999) (disch:=omega) only[go_sem,simprocAttr, *,rxsD] | ((first | refine wz8 (fun hh => ?_) (fun hh => ?_) | refine wz9 (fun hh => ?_) (fun hh => ?_) | refine wpB_cond (by simp -dsimp (maxSteps:=999999) (disch:=omega) only[go_sem,simprocAttr, *,rxsD]; exact rfl) (fun hh => ?_) (fun hh => ?_)) <;> (try replace hh := vqs hh) <;> (try (exfalso; first | exact hh | omega))))
        refine wpB_regionXL (prs := []) (by kernel_rfl) rfl (by kernel_rfl) ?_; simp -dsimp (maxSteps:=999999) (disch:=omega) only[go_sem,simprocAttr, *,rxsD]
        refine ⟨fun _ => rfl, evB_plain bo16 rfl rfl hst hH ?_⟩
        cases hh : hasR (w.take m) l[j] with
        | true =>
          rw [hh] at hfirst
          simp only [if_true] at hfirst
          repeat' (first | refine wz1 ?_ | refine wz2 ?_ | refine wz3 ?_ | refine wz4 ?_ | refine wz5 ?_ | refine wz6 ?_ | simp -dsimp (maxSteps:=999999) (disch:=omega) only[go_sem,simprocAttr, *] | ((first | refine wz8 (fun hh => ?_) (fun hh => ?_) | refine wz9 (fun hh => ?_) (fun hh => ?_) | refine wz7 (fun hh => ?_) (fun hh => ?_)) <;> (try replace hh := vqs hh) <;> (try (exfalso; first | exact hh | omega))))
          refine hR2 _ _ ⟨j, by omega, gs, by simp -dsimp (maxSteps:=999999) (disch:=omega) only[go_sem,simprocAttr, *,rxsD], gs, gs, gs, gs, gs, gs, gs⟩ ?_
          simp -dsimp (maxSteps:=999999) (disch:=omega) only[go_sem,simprocAttr, *,natOf_int]
        | false =>
          rw [hh] at hfirst
          simp only [Bool.false_eq_true, if_false] at hfirst
          repeat' (first | refine wz1 ?_ | refine wz2 ?_ | refine wz3 ?_ | refine wz4 ?_ | refine wz5 ?_ | refine wz6 ?_ | simp -dsimp (maxSteps:=999999) (disch:=omega) only[go_sem,simprocAttr, *] | ((first | refine wz8 (fun hh => ?_) (fun hh => ?_) | refine wz9 (fun hh => ?_) (fun hh => ?_) | refine wz7 (fun hh => ?_) (fun hh => ?_)) <;> (try replace hh := vqs hh) <;> (try (exfalso; first | exact hh | omega))))
          refine hR2 _ _ ⟨j, by omega, gs, by simp -dsimp (maxSteps:=999999) (disch:=omega) only[go_sem,simprocAttr, *,rxsD], gs, gs, gs, gs, gs, gs, gs⟩ ?_
          simp -dsimp (maxSteps:=999999) (disch:=omega) only[go_sem,simprocAttr, *,natOf_int]
end Go.Proofs.W
end
/- From a law's runs to the row that lists variables. -/
section
set_option linter.unusedVariables false
namespace Vm
open Go
section
variable {P : Program}
theorem typed_str {t : TypeId} {ds : List D} (hu : P.underlying t = some .string) (h : Typed P t ds) : ∃ s, ds = [.str s] ∧ s.length ≤ maxLen := by
  cases h with
  | bool _ b h => rw [hu] at h; cases h
  | int _ k1 n h hn => rw [hu] at h; cases h
  | str _ s h hs => exact ⟨s, rfl, hs⟩
  | slice _ e xs h hl hx => rw [hu] at h; cases h
  | struct _ fs ds h hf => rw [hu] at h; cases h
  | array _ e n ds h hf => rw [hu] at h; cases h
theorem typed_bool {t : TypeId} {ds : List D} (hu : P.underlying t = some .bool) (h : Typed P t ds) : ∃ b, ds = [.bool b] := by
  cases h with
  | bool _ b h => exact ⟨b, rfl⟩
  | int _ k1 n h hn => rw [hu] at h; cases h
  | str _ s h hs => rw [hu] at h; cases h
  | slice _ e xs h hl hx => rw [hu] at h; cases h
  | struct _ fs ds h hf => rw [hu] at h; cases h
  | array _ e n ds h hf => rw [hu] at h; cases h
theorem typedF_cons {t : TypeId} {ts : List TypeId} {ds : List D} (h : TypedF P (t :: ts) ds) : ∃ a b, ds = a ++ b ∧ Typed P t a ∧ TypedF P ts b := by
  cases h with
  | cons _ _ a b h hr => exact ⟨a, b, rfl, h, hr⟩
theorem typedE_one {e : TypeId} {xs : List D} (ha : aggT P e = false) (h : TypedE P e xs) {α : Type} (f : α → D) (hf : ∀ x, Typed P e [x] → ∃ a, x = f a) : ∃ l : List α, xs = l.map f := by
  induction xs with
  | nil => exact ⟨[], rfl⟩
  | cons x xs ih =>
    cases h with
    | agg _ cs _ ha' h hr => rw [ha] at ha'; cases ha'
    | one _ _ _ ha' h hr =>
      obtain ⟨l, hl⟩ := ih hr
      obtain ⟨a, hb⟩ := hf x h
      exact ⟨a :: l, by rw [List.map_cons, ← hl, hb]⟩
/-- as 'typedE_agg', for what lies within: each element is less than the list -/
theorem typedE_aggI {e : TypeId} {xs : List D} (ha : aggT P e = true) (h : TypedE P e xs) {α : Type} (f : α → D) (q : α → Prop) (hf : ∀ cs, SizeOf.sizeOf cs < SizeOf.sizeOf xs → Typed P e cs → ∃ a, D.agg cs = f a ∧ q a) : ∃ l : List α, xs = l.map f ∧ ∀ a ∈ l, q a := by
  induction xs with
  | nil => exact ⟨[], rfl, by simp⟩
  | cons x xs ih =>
    cases h with
    | agg _ cs _ ha' h hr =>
      obtain ⟨l, hl, hq⟩ := ih hr (fun cs hc => hf cs (by simp only [List.cons.sizeOf_spec]; omega))
      obtain ⟨a, hb, hqa⟩ := hf cs (by simp only [List.cons.sizeOf_spec, D.agg.sizeOf_spec]; omega) h
      refine ⟨a :: l, by rw [List.map_cons, ← hl, hb], fun y hy => ?_⟩
      rcases List.mem_cons.1 hy with rfl | hy
      · exact hqa
      · exact hq y hy
    | one _ _ _ ha' h hr => rw [ha] at ha'; cases ha'
theorem typedF_nil' {ds : List D} (h : TypedF P [] ds) : ds = [] := by cases h; rfl
theorem typedA_str {t : TypeId} {ts : List TypeId} {ds : List D} (hu : P.underlying t = some .string) (ha : aggT P t = false) (h : TypedA P (t :: ts) ds) : ∃ s r, ds = .str s :: r ∧ s.length ≤ maxLen ∧ TypedA P ts r := by
  obtain ⟨d, r, rfl, h1, h2⟩ := typedA_one ha h
  obtain ⟨s, hs, hl⟩ := typed_str hu h1
  cases hs
  exact ⟨s, r, rfl, hl, h2⟩
theorem typedA_int {t : TypeId} {k : IntKind} {ts : List TypeId} {ds : List D} (hu : P.underlying t = some (.int k)) (ha : aggT P t = false) (h : TypedA P (t :: ts) ds) : ∃ n r, ds = .int k n :: r ∧ (Lit.int k n).wf = true ∧ TypedA P ts r := by
  obtain ⟨d, r, rfl, h1, h2⟩ := typedA_one ha h
  obtain ⟨s, hs, hl⟩ := typed_int hu h1
  cases hs
  exact ⟨s, r, rfl, hl, h2⟩
theorem typedA_slice {t e : TypeId} {ts : List TypeId} {ds : List D} (hu : P.underlying t = some (.slice e)) (ha : aggT P t = false) (h : TypedA P (t :: ts) ds) : ∃ xs r, ds = .sl false xs :: r ∧ xs.length ≤ maxLen ∧ TypedE P e xs ∧ TypedA P ts r := by
  obtain ⟨d, r, rfl, h1, h2⟩ := typedA_one ha h
  obtain ⟨s, hs, hl, hx⟩ := typed_slice hu h1
  cases hs
  exact ⟨s, r, rfl, hl, hx, h2⟩
theorem typedE_ints {e : TypeId} {k : IntKind} {xs : List D} (hu : P.underlying e = some (.int k)) (ha : aggT P e = false) (h : TypedE P e xs) : ∃ l : List Int, xs = l.map (.int k) :=
  typedE_one ha h _ fun x hx => by
    obtain ⟨n, hn, -⟩ := typed_int hu hx
    cases hn
    exact ⟨n, rfl⟩
end

/-- the row's contract, where it lists variables and a function reads one of the library's own -/
theorem law_lifted {C : Checked} {os : Os} {f : FuncId} {fn : Func} {s : ChangeSpec} {H : Type} {enc : TypeId × Value → H} {conds : List PathCond} {laid : List (String × DataW Unit)} {A : Ann} {S : List TypeId} {tb : TypeId}
    (started : os.Started) (own : ownKnob C.prog.godebug = none) (noInit : C.prog.inits.idxOf? f = none) (hfn : C.prog.funcs[f]? = some fn)
    (witness : ∃ (w : World) (tape : Tape) (i : Input), w.os = os ∧ (w.forCall tape i).Shaped C.prog ∧ i.vars = [] ∧ Input.okWide C.prog (w.forCall tape i) .any w.heap.size f i ∧
      ((s.pre enc C.prog fn conds false (w.forCall tape i).memory i.args ∧ laidMetH C.prog laid (w.forCall tape i).memory) ∧ sizedMet enc C.prog fn (OpenSpec.ofChange s) false (w.forCall tape i).memory i.args) ∧ ({} : Assume).holds C.prog (lone (Frame.enter C.prog f i.args .normal) [] (w.forCall tape i)))
    (hvars : s.vars = []) (hl : laidOutB C.prog = true)
    (hts : (fn.params.toList.all fun t => C.prog.readableRec t && decide (t < C.prog.types.size)) = true) (hS : plainS C.prog S = true) (hpl : (fn.params.toList.all fun t => S.contains t) = true)
    (hbod : bodied C.prog f = true) (hres : fn.resultTypes = #[tb]) (htb : C.prog.underlying tb = some .bool)
    (hs : ∀ ds : List (DataW H), ds.length = fn.params.size → (s.fn H ds).results = [.lit (.bool true)] ∧ (s.fn H ds).args = ds ∧ (s.fn H ds).vars = [])
    (hprim : ∀ W : World, W.ShapedOpen C.prog → @PrimOk ⟨im0 W⟩ C.prog A)
    (hrun : ∀ Ds, TypedA C.prog fn.params.toList Ds → ∃ k H', runF C.prog A k f Ds [] = some (.ok (.bool true) H')) :
    ReturnsInHanded {} C os f .any (fun w args => (s.pre enc C.prog fn conds false w args ∧ laidMetH C.prog laid w) ∧ sizedMet enc C.prog fn (OpenSpec.ofChange s) false w args) (s.post enc C.prog fn false true false false) := by
  refine returnsInHanded_of_calls own started noInit witness ?_
  intro w tape i _ hsh _ hok hpre hholds
  obtain ⟨_, _, _, fn', hfn', _, _, _, _, hval⟩ := hok
  have e : fn' = fn := Option.some.inj (hfn'.symm.trans hfn)
  subst e
  obtain ⟨⟨⟨ds, gs, before, hw, hc⟩, hx⟩, hz⟩ := hpre
  have hw' := DataW.Whole.of_heap (w' := w.forCall tape i) (by rfl) hw
  have hts' : ∀ t ∈ fn'.params.toList, C.prog.readableRec t = true ∧ t < C.prog.types.size := fun t ht => by
    have h2 : C.prog.readableRec t = true ∧ decide (t < C.prog.types.size) = true := by simpa only [Bool.and_eq_true] using List.all_eq_true.1 hts t ht
    exact ⟨h2.1, of_decide_eq_true h2.2⟩
  refine (law_contract hvars hl hts' hS hpl hbod hres htb hs hrun (w.forCall tape i) w.heap.size i.args ds gs before hval hw' (hprim _ hsh)).mono fun e W' ⟨v, he, hp⟩ => ?_
  subst he
  exact ChangeSpec.post_blind hp
end Vm
end
/- Typed expressions. -/
section
set_option maxHeartbeats 4000000
set_option linter.unusedVariables false
set_option linter.unusedSimpArgs false
namespace Go.Proofs.W
open Go Vm Go.Proofs.Zs07

theorem wf_u16' {n : Int} (h : (Lit.int .u16 n).wf = true) : 0 ≤ n ∧ n < 65536 := by simp [Lit.wf, IntKind.min, IntKind.max, IntKind.signed, IntKind.bits] at h; omega
theorem ftRx : fieldTs Tryd.prog 40 = some [5, 38, 32] := by kernel_rfl
theorem aggRx : aggT Tryd.prog 40 = true := by kernel_rfl
mutual
def tyR : Rx → Prop
  | .mk k s l => 0 ≤ k ∧ k < 256 ∧ 0 ≤ s ∧ s < 65536 ∧ tyL l
def tyL : List Rx → Prop
  | [] => True
  | r :: l => tyR r ∧ tyL l
end
theorem tyL_of : ∀ {l : List Rx}, (∀ r ∈ l, tyR r) → tyL l
  | [], _ => trivial
  | r :: l, h => ⟨h r (by simp), tyL_of fun x hx => h x (by simp [hx])⟩
theorem tyL_get : ∀ {l : List Rx}, tyL l → ∀ r ∈ l, tyR r
  | r :: l, h, x, hx => by
    rcases List.mem_cons.1 hx with rfl | hx
    · exact h.1
    · exact tyL_get h.2 x hx
theorem okL_of : ∀ {l : List Rx}, (∀ r ∈ l, okR r) → okL l
  | [], _ => trivial
  | r :: l, h => ⟨h r (by simp), okL_of fun x hx => h x (by simp [hx])⟩
theorem ok_of_great : ∀ (m : Nat) (r : Rx), tyR r → greatR m r = false → okR r := by
  intro m
  induction m with
  | zero => rintro ⟨k, s, l⟩ _ h; simp [greatR] at h
  | succ m ih =>
    rintro ⟨k, s, l⟩ ⟨h1, h2, h3, h4, h5⟩ h
    simp only [greatR, Bool.or_eq_false_iff, decide_eq_false_iff_not] at h
    exact ⟨h1, h2, h3, h4, by omega, okL_of fun r hr => ih r (tyL_get h5 r hr) (by simpa using List.any_eq_false.1 h.2 r hr)⟩
theorem wf_u8 {n : Int} (h : (Lit.int .u8 n).wf = true) : 0 ≤ n ∧ n < 256 := by simp [Lit.wf, IntKind.min, IntKind.max, IntKind.signed, IntKind.bits] at h; omega
theorem rx_of_typed : ∀ (n : Nat) (cs : List D), SizeOf.sizeOf cs < n → Typed Tryd.prog 40 cs → ∃ r : Rx, D.agg cs = rxD r ∧ tyR r := by
  intro n
  induction n with
  | zero => intro cs h; omega
  | succ n ih =>
    intro cs hn h
    have hf0 := typed_fields ftRx h
    obtain ⟨a, b, rfl, ha, hf1⟩ := typedF_cons hf0
    obtain ⟨k, rfl, hk⟩ := typed_int un5 ha
    obtain ⟨a, b2, rfl, ha, hf2⟩ := typedF_cons hf1
    obtain ⟨s, rfl, hs⟩ := typed_int un38 ha
    obtain ⟨a, b, rfl, ha, hf3⟩ := typedF_cons hf2
    obtain ⟨xs, rfl, hl, hx⟩ := typed_slice un32 ha
    cases typedF_nil hf3
    simp only [List.cons_append, List.nil_append, List.append_nil, List.cons.sizeOf_spec, D.sl.sizeOf_spec] at hn
    obtain ⟨l, rfl, hq⟩ := typedE_aggI aggRx hx rxD tyR fun cs hc ht => ih cs (by omega) ht
    refine ⟨.mk k s l, by rw [rx_mk, rxDs_map]; rfl, (wf_u8 hk).1, (wf_u8 hk).2, (wf_u16' hs).1, (wf_u16' hs).2, tyL_of hq⟩
theorem rxs_of_typed {xs : List D} (h : TypedE Tryd.prog 40 xs) : ∃ l : List Rx, xs = rxDs l ∧ ∀ r ∈ l, tyR r := by
  obtain ⟨l, rfl, hq⟩ := typedE_aggI aggRx h rxD tyR fun cs _ hc => rx_of_typed _ cs (Nat.lt_succ_self _) hc
  exact ⟨l, (rxDs_map l).symm, hq⟩
end Go.Proofs.W
end
