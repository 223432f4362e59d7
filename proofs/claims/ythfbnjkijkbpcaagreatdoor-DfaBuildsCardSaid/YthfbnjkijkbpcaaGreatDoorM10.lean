/- Texts that stand behind this claim, one after the other. -/
import Derived.Test.YthfbnjkijkbpcaaGreatDoorM6
import Derived.Test.YthfbnjkijkbpcaaGreatDoorM9
import Derived.HandedShaped
import Derived.LaidLaws
import Derived.Test.YthfbnjkijkbpcaaGreatDoorM8
/- The document's machine of expressions is the program's: the whole. -/
section
set_option maxHeartbeats 4000000
set_option linter.unusedVariables false
set_option linter.unusedSimpArgs false
namespace Go.Proofs.W
open Go Vm Go.Proofs.Zs7z

/-- what has no set leads nowhere -/
def Tz (n : Nfa) : Prop := ∀ s, n.set.getD s 0 = 0 → n.to.getD s 0 = 0
def Rise (n : Nfa) : Prop := ∀ i, (n.free.getD i []).Pairwise (· < ·)
theorem Tz.setAt {n : Nfa} (h : Tz n) (i : Nat) (s : Int) (o : Int) (hs : 0 < s) (hl : n.to.length = n.set.length) : Tz { n with set := n.set.set i s, to := n.to.set i o } := fun j hj => by
  simp only [getD_set] at hj ⊢
  by_cases e : i = j ∧ i < n.set.length
  · rw [if_pos e] at hj; omega
  · rw [if_neg e] at hj
    rw [if_neg (by rw [hl]; exact e)]
    exact h j hj
theorem Tz.addState {n : Nfa} (h : Tz n) (hl : n.to.length = n.set.length) : Tz (addState n) := fun j hj => by
  simp only [W.addState, getD_push] at hj ⊢
  by_cases e : j = n.set.length
  · rw [if_pos (by omega)]
  · rw [if_neg e] at hj
    rw [if_neg (by omega)]
    exact h j hj
theorem catW_tz (o : Nat) : ∀ (ps : List (Nat × Nat)) (n : Nfa) (last : Nat), Tz n → Tz (catW o n last ps)
  | [], n, last, h => h
  | p :: r, n, last, h => catW_tz o r _ p.2 (show Tz (addFree n last p.1) from h)
theorem altW_tz (i o : Nat) : ∀ (ps : List (Nat × Nat)) (n : Nfa), Tz n → Tz (altW i o n ps)
  | [], n, h => h
  | p :: r, n, h => altW_tz i o r _ (show Tz (addFree (addFree n i p.1) p.2 o) from h)
theorem wire_tz {n : Nfa} (h : Tz n) (hl : n.to.length = n.set.length) (k s : Int) (hs : k = 1 → 0 < s) (i o : Nat) (ps : List (Nat × Nat)) : Tz (wire k s i o ps n) := by
  unfold wire
  split
  · exact h
  split
  · rename_i hk; exact h.setAt i s o (hs hk) hl
  split
  · exact catW_tz o ps n i h
  split
  · exact altW_tz i o ps n h
  split
  · exact h
  · split
    · exact h
    split
    · exact h
    · exact h
theorem shape1_pos {s : Int} {m : Nat} (h : shape1 1 s m = true) : 0 < s := by
  simp only [shape1, if_neg (show ¬ (1 : Int) = 0 by omega), if_true, Bool.and_eq_true, decide_eq_true_eq] at h
  exact h.2
mutual
theorem makeN_tz : ∀ (r : Rx) (n : Nfa), OkM n → shapesR r = true → Tz n → Tz (makeN r n).1
  | .mk k s l, n, hn, hs, h => by
    simp only [shapesR, Bool.and_eq_true] at hs
    have h1 := kidsN_tz l (addState n) hn.addState hs.2 (h.addState hn.lT)
    have hn2 := OkM.kidsN l (addState n) hn.addState
    simp only [makeN]
    exact wire_tz (h1.addState hn2.lT) hn2.addState.lT k s (fun hk => by subst hk; exact shape1_pos hs.1) _ _ _
theorem kidsN_tz : ∀ (l : List Rx) (n : Nfa), OkM n → shapesL l = true → Tz n → Tz (kidsN l n).1
  | [], n, _, _, h => h
  | r :: l, n, hn, hs, h => by
    simp only [shapesL, Bool.and_eq_true] at hs
    exact kidsN_tz l _ (OkM.makeN r n hn) hs.2 (makeN_tz r n hn hs.1 h)
end
theorem buildFrom_tz : ∀ (l : List Rx) (i : Nat) (n n' : Nfa), OkM n → Tz n → 1 ≤ kN n → i + l.length ≤ 16 → buildFrom i l n = some n' → Tz n'
  | [], i, n, n', h, ht, _, _, hb => by
    have : n = n' := by simpa [buildFrom] using hb
    subst this; exact ht
  | r :: l, i, n, n', h, ht, hk, hi, hb => by
    rw [buildFrom] at hb
    split at hb
    · rename_i hr
      simp only [List.length_cons] at hi
      have hsh := (sizes (l := [r]) (by simpa using hr) r (by simp)).2
      have e3 := makeN_io r n
      have hk1 := makeN_k r n
      have hp := sizeR_pos r
      have h1 := OkM.makeN r n h
      have h2 := h1.addFree 0 (W.makeN r n).2.1 (by rw [e3]; show 0 ≤ ((kN n : Nat) : Int) ∧ ((kN n : Nat) : Int) < _; omega)
      have h3 := h2.setRule (W.makeN r n).2.2 i ⟨by omega, by omega⟩
      exact buildFrom_tz l (i + 1) _ n' h3 (show Tz (setRule (addFree (W.makeN r n).1 0 (W.makeN r n).2.1) (W.makeN r n).2.2 i) from makeN_tz r n h hsh ht) (by show 1 ≤ kN (W.makeN r n).1; omega) (by omega) hb
    · cases hb
theorem buildFrom_some : ∀ (l : List Rx) (i : Nat) (n : Nfa), l.all rightR = true → ∃ n', buildFrom i l n = some n'
  | [], i, n, _ => ⟨n, rfl⟩
  | r :: l, i, n, h => by
    simp only [List.all_cons, Bool.and_eq_true] at h
    rw [buildFrom, if_pos h.1]
    exact buildFrom_some l _ _ h.2
theorem addI_rise {n : Nfa} (h : Rise n) (i x : Nat) : Rise (addI n i x) := fun j => by
  simp only [addI, getD_set]
  split
  · exact into_rise (h i)
  · exact h j
theorem kidW_rise {n : Nfa} (h : Rise n) (k : Int) (a en next kid last : Nat) : Rise (kidW k a en next kid last n).1 := by
  unfold kidW
  split
  · exact addI_rise h _ _
  · split
    · exact addI_rise (addI_rise (addI_rise h _ _) _ _) _ _
    · exact addI_rise (addI_rise h _ _) _ _
theorem kidW_tz {n : Nfa} (h : Tz n) (k : Int) (a en next kid last : Nat) : Tz (kidW k a en next kid last n).1 := by
  unfold kidW
  split
  · exact h
  · split
    · exact h
    · exact h
mutual
theorem layN_inv : ∀ (r : Rx) (a : Nat) (n : Nfa), shapesR r = true → n.to.length = n.set.length → Tz n → Rise n → Tz (layN r a n) ∧ Rise (layN r a n)
  | .mk k s l, a, n, hs, hl, ht, hr => by
    simp only [shapesR, Bool.and_eq_true] at hs
    rw [layN]
    split
    · rename_i hk
      exact ⟨ht.setAt a s _ (by rw [hk] at hs; exact shape1_pos hs.1) hl, hr⟩
    · have h2 : Tz (if k ≠ 2 ∧ k ≠ 3 then addI n a (a + 2 * sizeL l + 1) else n) ∧ Rise (if k ≠ 2 ∧ k ≠ 3 then addI n a (a + 2 * sizeL l + 1) else n) ∧ (if k ≠ 2 ∧ k ≠ 3 then addI n a (a + 2 * sizeL l + 1) else n).to.length = (if k ≠ 2 ∧ k ≠ 3 then addI n a (a + 2 * sizeL l + 1) else n).set.length := by
        split
        · exact ⟨ht, addI_rise hr _ _, hl⟩
        · exact ⟨ht, hr, hl⟩
      have h1 := layL_inv k a (a + 2 * sizeL l + 1) l (a + 1) a _ hs.2 h2.2.2 h2.1 h2.2.1
      generalize (if k ≠ 2 ∧ k ≠ 3 then addI n a (a + 2 * sizeL l + 1) else n) = n0 at h1 h2 ⊢
      split
      · exact ⟨h1.1, addI_rise h1.2 _ _⟩
      · exact h1
theorem layL_inv (k : Int) (a en : Nat) : ∀ (l : List Rx) (next last : Nat) (n : Nfa), shapesL l = true → n.to.length = n.set.length → Tz n → Rise n → Tz (layL k a en l next last n).1 ∧ Rise (layL k a en l next last n).1
  | [], _, _, n, _, _, ht, hr => ⟨ht, hr⟩
  | r :: l, next, last, n, hs, hl, ht, hr => by
    simp only [shapesL, Bool.and_eq_true] at hs
    simp only [layL]
    obtain ⟨g1, g2⟩ := layN_inv r next n hs.1 hl ht hr
    have e1 := (layN_fl r next n).2.1
    have e2 := layN_k r next n
    have e3 := kidW_k k a en next (next + 2 * sizeR r - 1) last (layN r next n)
    have e4 : (kidW k a en next (next + 2 * sizeR r - 1) last (layN r next n)).1.to.length = (layN r next n).to.length := by
      unfold kidW
      split
      · rfl
      · split <;> rfl
    exact layL_inv k a en l _ _ _ hs.2 (by simp only [kN] at e2 e3; omega) (kidW_tz g1 _ _ _ _ _ _) (kidW_rise g2 _ _ _ _ _ _)
end
theorem starts_rng : ∀ (l : List Rx) (a : Nat), ∀ s ∈ starts l a, a ≤ s ∧ s < a + 2 * sizeL l
  | [], a, s, h => by cases h
  | r :: l, a, s, h => by
    have hp := sizeR_pos r
    simp only [starts, List.mem_cons] at h
    simp only [sizeL]
    rcases h with rfl | h
    · omega
    · have := starts_rng l _ s h; omega
structure PreR (n : Nfa) (l : List Rx) (K : Nat) : Prop where
  k : kN n = K
  lF : n.free.length = K
  lT : n.to.length = K
  lR : n.rule.length = K
  s0 : FreeOnly n 0 (starts l 1)
  fr : FragR n l 1
  fs : Fresh n (1 + 2 * sizeL l) K
  ru : ∀ (s i : Nat), n.rule.getD s (-1) = (i : Int) ↔ (endsP l 1)[i]? = some s
  rm : ∀ s, -1 ≤ n.rule.getD s (-1)
  tz : Tz n
  rise : Rise n
theorem getD_rep {α : Type} {K i : Nat} {x d : α} : (List.replicate K x).getD i d = if i < K then x else d := by
  rw [List.getD_eq_getElem?_getD, List.getElem?_replicate]
  split <;> rfl
theorem preR_zero (K : Nat) : PreR (zeroN K) [] K := by
  refine ⟨by simp [kN, zeroN], by simp [zeroN], by simp [zeroN], by simp [zeroN], ⟨?_, ?_⟩, trivial, fun s _ _ => ⟨?_, ?_⟩, fun s i => ?_, fun s => ?_, fun s _ => ?_, fun s => ?_⟩
  · simp only [zeroN, getD_rep]; split <;> rfl
  · simp only [zeroN, getD_rep]; split <;> rfl
  · simp only [zeroN, getD_rep]; split <;> rfl
  · simp only [zeroN, getD_rep]; split <;> rfl
  · simp only [zeroN, getD_rep, endsP]
    constructor
    · intro h; split at h <;> omega
    · intro h; simp at h
  · simp only [zeroN, getD_rep]; split <;> omega
  · simp only [zeroN, getD_rep]; split <;> rfl
  · simp only [zeroN, getD_rep]; split <;> exact .nil
theorem preR_step {n : Nfa} {l : List Rx} {K : Nat} (h : PreR n l K) (r : Rx) (hs : shapesR r = true) (hK : 1 + 2 * sizeL l + 2 * sizeR r ≤ K) :
    PreR (setRule (addI (layN r (1 + 2 * sizeL l) n) 0 (1 + 2 * sizeL l)) (1 + 2 * sizeL l + 2 * sizeR r - 1) (l.length : Int)) (l ++ [r]) K := by
  have hkk := h.k
  obtain ⟨m1, m2, m3⟩ := lay_frag r hs (1 + 2 * sizeL l) n (by rw [h.lF, h.k]) (by rw [h.lT, h.k]) (by omega) (h.fs.sub (Nat.le_refl _) (by omega))
  obtain ⟨e1, e2, e3⟩ := layN_fl r (1 + 2 * sizeL l) n
  have ek := layN_k r (1 + 2 * sizeL l) n
  obtain ⟨t1, t2⟩ := layN_inv r (1 + 2 * sizeL l) n hs (by rw [h.lT]; have := h.k; simp only [kN] at this; omega) h.tz h.rise
  have hp := sizeR_pos r
  have hsz := sizeL_app [r] l
  simp only [sizeL, Nat.add_zero] at hsz
  have hend : 1 + 2 * sizeL l + 2 * sizeR r - 1 = endOf r (1 + 2 * sizeL l) := rfl
  rw [hend]
  have hsame : ∀ s, s ≠ 0 → SameS (layN r (1 + 2 * sizeL l) n) (setRule (addI (layN r (1 + 2 * sizeL l) n) 0 (1 + 2 * sizeL l)) (endOf r (1 + 2 * sizeL l)) (l.length : Int)) s := fun s hs => (addI_same hs).trans ⟨rfl, rfl, rfl⟩
  refine ⟨by show kN (layN r (1 + 2 * sizeL l) n) = _; omega, by show (addI (layN r (1 + 2 * sizeL l) n) 0 (1 + 2 * sizeL l)).free.length = _; rw [addI_len, e1, h.lF], by show (layN r (1 + 2 * sizeL l) n).to.length = _; rw [e2, h.lT], by simp only [setRule, addI, e3, List.length_set, h.lR], ?_, ?_, ?_, fun s i => ?_, fun s => ?_, t1, addI_rise t2 _ _⟩
  · have := addI_only (t := 1 + 2 * sizeL l) (by rw [e1, h.lF]; omega) ((m3 0 (by omega)).only h.s0) (fun y hy => (starts_rng l 1 y hy).2)
    rw [starts_app]
    exact ⟨this.1, this.2⟩
  · refine fragR_app r l 1 (fragR_keep l 1 (fun s h1 h2 => (m3 s (by omega)).trans (hsame s (by omega))) h.fr) ?_ ?_
    · exact frag_keep r _ (fun s h1 h2 => hsame s (by omega)) m1
    · exact (hsame _ (by simp only [endOf]; omega)).only m2
  · rw [hsz]
    exact (h.fs.sub (by omega) (Nat.le_refl _)).same fun s h1 h2 => (m3 s (by omega)).trans (hsame s (by omega))
  · simp only [setRule, addI, e3, getD_set]
    rw [h.lR, endsP_app]
    by_cases hq : endOf r (1 + 2 * sizeL l) = s
    · rw [if_pos ⟨hq, by simp only [endOf]; omega⟩]
      constructor
      · intro e
        have : l.length = i := by omega
        subst this
        rw [List.getElem?_append_right (by rw [endsP_len]; omega), endsP_len, hq]; simp
      · intro e
        rcases Nat.lt_or_ge i l.length with h' | h'
        · rw [List.getElem?_append_left (by rw [endsP_len]; omega)] at e
          have := endsP_rng l 1 s (List.mem_of_getElem? e)
          simp only [endOf] at hq; omega
        · rw [List.getElem?_append_right (by rw [endsP_len]; omega), endsP_len] at e
          cases hx : i - l.length with
          | zero => omega
          | succ m => rw [hx] at e; simp at e
    · rw [if_neg (fun e => hq e.1), h.ru]
      rcases Nat.lt_or_ge i l.length with h' | h'
      · rw [List.getElem?_append_left (by rw [endsP_len]; omega)]
      · rw [List.getElem?_append_right (by rw [endsP_len]; omega), endsP_len, List.getElem?_eq_none (by rw [endsP_len]; omega)]
        cases hx : i - l.length with
        | zero => simpa using hq
        | succ m => simp
  · simp only [setRule, addI, e3, getD_set]
    split
    · omega
    · exact h.rm s
theorem refFrom_pre : ∀ (l done : List Rx) (n : Nfa) (K : Nat), PreR n done K → shapesL l = true → 1 + 2 * sizeL done + 2 * sizeL l ≤ K → PreR (refFrom l done.length (1 + 2 * sizeL done) n) (done ++ l) K
  | [], done, n, K, h, _, _ => by simpa [refFrom] using h
  | r :: l, done, n, K, h, hs, hK => by
    simp only [shapesL, Bool.and_eq_true] at hs
    simp only [sizeL] at hK
    have hsz := sizeL_app [r] done
    simp only [sizeL, Nat.add_zero] at hsz
    have := refFrom_pre l (done ++ [r]) _ K (preR_step h r hs.1 (by omega)) hs.2 (by omega)
    rw [refFrom]
    have e1 : (done ++ [r]).length = done.length + 1 := by simp
    have e2 : 1 + 2 * sizeL (done ++ [r]) = 1 + 2 * sizeL done + 2 * sizeR r := by omega
    rw [e1, e2] at this
    simpa using this
/-- a state is alike in two machines -/
def Like (n m : Nfa) (s : Nat) : Prop := m.set.getD s 0 = n.set.getD s 0 ∧ m.free.getD s [] = n.free.getD s [] ∧ (n.set.getD s 0 ≠ 0 → m.to.getD s 0 = n.to.getD s 0)
theorem like_only {n m : Nfa} {s : Nat} {l : List Nat} (h : FreeOnly n s l) (g : FreeOnly m s l) : Like n m s := ⟨g.1.trans h.1.symm, g.2.trans h.2.symm, fun e => absurd h.1 e⟩
mutual
theorem frag_like {n m : Nfa} : ∀ (r : Rx) (a : Nat), Frag n r a → Frag m r a → ∀ s, a ≤ s → s < endOf r a → Like n m s
  | .mk k s0 l, a, h, g, s, h1, h2 => by
    rw [endOf_mk] at h2
    obtain ⟨p1, p2⟩ := h
    obtain ⟨q1, q2⟩ := g
    by_cases e : s = a
    · subst e
      by_cases hk : k = 1
      · rw [if_pos hk] at p1 q1
        exact ⟨q1.1.trans p1.1.symm, q1.2.2.trans p1.2.2.symm, fun _ => q1.2.1.trans p1.2.1.symm⟩
      · rw [if_neg hk] at p1 q1
        exact like_only p1 q1
    · exact fragL_like k (a + 1) _ l (a + 1) p2 q2 s (by omega) (by omega)
theorem fragL_like {n m : Nfa} (k : Int) (a0 b : Nat) : ∀ (l : List Rx) (a : Nat), FragL n k a0 b l a → FragL m k a0 b l a → ∀ s, a ≤ s → s < a + 2 * sizeL l → Like n m s
  | [], a, _, _, s, h1, h2 => by simp [sizeL] at h2; omega
  | r :: l, a, h, g, s, h1, h2 => by
    obtain ⟨p1, p2, p3⟩ := h
    obtain ⟨q1, q2, q3⟩ := g
    have hp := sizeR_pos r
    simp only [sizeL] at h2
    by_cases e : s < endOf r a
    · exact frag_like r a p1 q1 s h1 e
    · by_cases e2 : s = endOf r a
      · subst e2; exact like_only p2 q2
      · exact fragL_like k a0 b l _ p3 q3 s (by simp only [endOf] at e e2; omega) (by omega)
end
theorem fragR_like {n m : Nfa} : ∀ (l : List Rx) (a : Nat), FragR n l a → FragR m l a → ∀ s, a ≤ s → s < a + 2 * sizeL l → Like n m s
  | [], a, _, _, s, h1, h2 => by simp [sizeL] at h2; omega
  | r :: l, a, h, g, s, h1, h2 => by
    obtain ⟨p1, p2, p3⟩ := h
    obtain ⟨q1, q2, q3⟩ := g
    have hp := sizeR_pos r
    simp only [sizeL] at h2
    by_cases e : s < endOf r a
    · exact frag_like r a p1 q1 s h1 e
    · by_cases e2 : s = endOf r a
      · subst e2; exact like_only p2 q2
      · exact fragR_like l _ p3 q3 s (by simp only [endOf] at e e2; omega) (by omega)
theorem ext_getD {α : Type} {a b : List α} {d : α} (hl : a.length = b.length) (h : ∀ i, i < a.length → a.getD i d = b.getD i d) : a = b := by
  refine List.ext_getElem hl fun i h1 h2 => ?_
  have := h i h1
  rwa [List.getD_eq_getElem?_getD, List.getElem?_eq_getElem h1, List.getD_eq_getElem?_getD, List.getElem?_eq_getElem h2] at this
/-- the document's machine is the program's; its free steps rise -/
theorem ref_build (l : List Rx) : refN l = buildN l ∧ ∀ n, buildN l = some n → Rise n := by
  by_cases hc : l.length ≤ 16 ∧ l ≠ [] ∧ l.all rightR = true
  · obtain ⟨h1, h2, h3⟩ := hc
    have hlen : 1 ≤ l.length := by cases l with | nil => exact absurd rfl h2 | cons _ _ => simp
    obtain ⟨n, hn⟩ := buildFrom_some l 0 (addState emptyN) h3
    have hb : buildN l = some n := by rw [buildN, if_pos ⟨hlen, h1⟩, hn]
    obtain ⟨hp, hrt⟩ := buildN_pre hb
    obtain ⟨g1, -, -, -⟩ := build_right hb
    have htz : Tz n := buildFrom_tz l 0 _ n (OkM.addState ⟨rfl, rfl, rfl, fun i x hx => by simp [emptyN] at hx, fun i hi => by simp [emptyN] at hi, fun i => by simp [emptyN]⟩) (fun s _ => by cases s <;> simp [addState, emptyN]) (by simp [kN, addState, emptyN]) (by omega) hn
    have hsl : shapesL l = true := by rw [shapesL_eq, List.all_eq_true]; exact fun x hx => (sizes hrt x hx).2
    have hR := refFrom_pre l [] (zeroN (1 + 2 * sizeL l)) (1 + 2 * sizeL l) (preR_zero _) hsl (by simp [sizeL])
    simp only [List.nil_append, List.length_nil, sizeL, Nat.mul_zero, Nat.add_zero] at hR
    have href : refN l = some (refFrom l 0 1 (zeroN (1 + 2 * sizeL l))) := by rw [refN, if_pos ⟨h1, h2, h3⟩]
    generalize refFrom l 0 1 (zeroN (1 + 2 * sizeL l)) = m at *
    have hkn := hp.k
    have hkm := hR.k
    have hlike : ∀ s, s < kN n → Like n m s := fun s hs => by
      by_cases e : s = 0
      · subst e; exact like_only hp.s0 hR.s0
      · exact fragR_like l 1 hp.fr hR.fr s (by omega) (by omega)
    have e1 : m.set = n.set := ext_getD (d := 0) (by simp only [kN] at hkn hkm; omega) fun i hi => (hlike i (by simp only [kN] at hkn hkm ⊢; omega)).1
    have e2 : m.free = n.free := ext_getD (d := []) (by rw [hR.lF, g1.lF]; omega) fun i hi => (hlike i (by rw [hR.lF] at hi; omega)).2.1
    have e3 : m.to = n.to := ext_getD (d := 0) (by rw [hR.lT, g1.lT]; omega) fun i hi => by
      have hl := hlike i (by rw [hR.lT] at hi; omega)
      by_cases hz : n.set.getD i 0 = 0
      · rw [htz i hz]
        exact hR.tz i (hl.1.trans hz)
      · exact hl.2.2 hz
    have e4 : m.rule = n.rule := ext_getD (d := -1) (by rw [hR.lR, g1.lR]; omega) fun i hi => by
      have hm1 := hR.rm i
      have hn1 := (g1.ru i).1
      by_cases hz : 0 ≤ m.rule.getD i (-1)
      · obtain ⟨q, hq⟩ : ∃ q : Nat, m.rule.getD i (-1) = (q : Int) := ⟨(m.rule.getD i (-1)).toNat, by omega⟩
        rw [hq, (hp.ru i q).2 ((hR.ru i q).1 hq)]
      · by_cases hz2 : 0 ≤ n.rule.getD i (-1)
        · obtain ⟨q, hq⟩ : ∃ q : Nat, n.rule.getD i (-1) = (q : Int) := ⟨(n.rule.getD i (-1)).toNat, by omega⟩
          rw [hq, (hR.ru i q).2 ((hp.ru i q).1 hq)]
        · omega
    have e5 : m = n := by
      cases m; cases n
      simp only at e1 e2 e3 e4
      rw [e1, e2, e3, e4]
    refine ⟨by rw [href, hb, e5], fun n' hn' => ?_⟩
    rw [hb] at hn'
    cases hn'
    rw [← e5]; exact hR.rise
  · have hb : buildN l = none := by
      cases h : buildN l with
      | none => rfl
      | some n =>
        obtain ⟨-, hrt⟩ := buildN_pre h
        obtain ⟨-, -, -, g4⟩ := build_right h
        refine absurd ⟨g4, fun e => ?_, List.all_eq_true.2 hrt⟩ hc
        subst e
        rw [buildN, if_neg (by simp)] at h
        cases h
    refine ⟨by rw [refN, if_neg hc, hb], fun n hn => ?_⟩
    rw [hb] at hn; cases hn
end Go.Proofs.W
end
/- The document's machine without free steps of expressions: the walk. -/
section
set_option maxHeartbeats 4000000
set_option linter.unusedVariables false
set_option linter.unusedSimpArgs false
namespace Go.Proofs.W
open Go Vm Go.Proofs.Zs7z

theorem bdD7 : buildD Tryz.prog 28 [] = some (.agg [.sl true [], .sl true []]) := by kernel_rfl
theorem tabL_cells (k : Nat) (l : List Int) : (tabL k l).cells = [tabL k l] := rfl
theorem tabL_noTup (k : Nat) (l : List Int) : noTup (tabL k l) = true := rfl
theorem tabL_aggQ (k : Nat) (l : List Int) : aggQ (tabL k l) = false := rfl
theorem clos_ne {n : Nfa} {l : List Int} (h : IsL n.set.length l) (hn : l ≠ []) : clos n l ≠ [] := by
  obtain ⟨x, hx⟩ := List.exists_mem_of_ne_nil _ hn
  obtain ⟨p, rfl⟩ := h
  obtain ⟨i, h1, h2, h3⟩ := mem_listZ.1 hx
  intro e
  have : (i : Int) ∈ clos n (listZ n.set.length p) := by
    unfold clos
    exact mem_listZ.2 ⟨i, h1, clo_iff.2 (.base ⟨h1, by rw [← h3]; exact hx⟩), rfl⟩
  rw [e] at this; cases this
theorem take_end {n : Nfa} {ls ls2 : List (List Int)} {i : Nat} {q : List Int} (hold : ∀ (j : Nat) (q : List Int), ls[j]? = some q → ls2[j]? = some q) (hq : ls[i]? = some q) : (ls2.take (i + 1)).map (endsZ n) = (ls.take i).map (endsZ n) ++ [endsZ n q] := by
  have hi := (List.getElem?_eq_some_iff.1 hq).1
  have e1 : ls2.take i = ls.take i := by
    apply List.ext_getElem?
    intro j
    by_cases hj : j < i
    · rw [List.getElem?_take_of_lt hj, List.getElem?_take_of_lt hj, hold j ls[j] (List.getElem?_eq_getElem (by omega)), List.getElem?_eq_getElem (by omega)]
    · rw [List.getElem?_take_eq_none (by omega), List.getElem?_take_eq_none (by omega)]
  rw [List.take_add_one, hold i q hq, e1]
  simp
/-- the result, the machine with free steps, the lists -/
structure RbAt (n : Nfa) (ds : List D) (X : List (List D)) (H : Heap) : Prop where
  ms : Ms 3 ds X H
  h0 : hget H 0 = .arr [.agg [.sl true [], .sl true []]]
  h1 : hget H 1 = .arr [nfaD n]
  h3 : hget H 3 = .arr [.agg [ds.getD 1 ud, ds.getD 2 ud]]
  n0 : ¬ own (.ptr 3 0 0 :: ds) 0
  n1 : ¬ own (.ptr 3 0 0 :: ds) 1
/-- the row under way -/
structure RowAt (ds : List D) (r : Nat) (z : List Int) (H : Heap) : Prop where
  h : hget H r = .arr [rowD z]
  no : ¬ own (.ptr 3 0 0 :: ds) r
  r0 : r ≠ 0
  r1 : r ≠ 1
theorem RbAt.grow {n : Nfa} {ds : List D} {X : List (List D)} {H : Heap} (h : RbAt n ds X H) (L : Heap) : RbAt n ds X (H ++ L) := by
  have k : ∀ r ob, hget H r = .arr ob → hget (H ++ L) r = .arr ob := fun r ob hr => by rw [hget_app_lt (lt_of_hget hr), hr]
  exact ⟨⟨fun i hi => vec_keep (h.ms.v i hi) (by simp) fun r hr => hget_app_lt (h.ms.lt hr), h.ms.lenX, h.ms.ap, by have := h.ms.m; simp; omega⟩, k _ _ h.h0, k _ _ h.h1, k _ _ h.h3, h.n0, h.n1⟩
theorem RbAt.row {n : Nfa} {ds : List D} {X : List (List D)} {H : Heap} {r : Nat} {z : List Int} (h : RbAt n ds X H) (g : RowAt ds r z H) (ob : Ob) : RbAt n ds X (H.set r ob) := by
  have n3 : r ≠ 3 := fun e => g.no ⟨0, by simp [objsD, e]⟩
  have k : ∀ i, i ≠ r → hget (H.set r ob) i = hget H i := fun i hi => hget_set_ne fun e => hi e.symm
  exact ⟨⟨fun i hi => vec_keep (h.ms.v i hi) (by simp) fun x hx => k x fun e => g.no ⟨i + 1, by rw [← e]; simpa using hx⟩, h.ms.lenX, h.ms.ap, by have := h.ms.m; simpa using this⟩, by rw [k 0 g.r0.symm, h.h0], by rw [k 1 g.r1.symm, h.h1], by rw [k 3 n3.symm, h.h3], h.n0, h.n1⟩
theorem RowAt.set {ds : List D} {H : Heap} {r : Nat} {z z2 : List Int} (g : RowAt ds r z H) : RowAt ds r z2 (H.set r (.arr [rowD z2])) :=
  ⟨hget_set_eq (lt_of_hget g.h), g.no, g.r0, g.r1⟩
theorem rb_three {n : Nfa} {ds : List D} {a b c : List D} {H : Heap} (h : RbAt n ds [a, b, c] H) : ∃ dS dN dR, ds = [dS, dN, dR] := ds_three h.ms.lenX
theorem zrB7 : zeroT Tryz.prog 66 = some (.sl true []) := by kernel_rfl
theorem RbAt.app {n : Nfa} {dS dN dR : D} {X0 X1 X2 : List D} {H : Heap} (h : RbAt n [dS, dN, dR] [X0, X1, X2] H) {r : Nat} {z : List Int} (g : RowAt [dS, dN, dR] r z H) (k : Nat) (c : List Int) (hx : headSize 1 X0 = true) (hm : X0.length ≤ 1000) :
    ∃ d' H2, appendD Tryz.prog 69 (H ++ [.arr [tabL k c]]) dS (.vec H.length 0 1) = some (d', H2) ∧ RbAt n [d', dN, dR] [X0 ++ [tabL k c], X1, X2] H2 ∧ RowAt [d', dN, dR] r z H2 ∧ d'.cells = [d'] ∧ aggQ d' = false ∧ noTup d' = true := by
  obtain ⟨d4, H4, a4, m4, M4, l4, k4, f4, p1, p2, p3⟩ := h.ms.app (p := 0) (by simp) (H1 := H ++ [.arr [tabL k c]]) el69 sz66 by66 zrB7 rfl (by decide) (by simp) (fun r hr => hget_app_lt hr) (add_new (.inl (strip_tabL k c))) rfl hx (by simp; omega)
  simp only [List.set_cons_zero, List.set_cons_succ, List.getD_cons_zero, List.getD_cons_succ] at m4 a4 k4
  have no : ∀ r, r < H.length → ¬ own (.ptr 3 0 0 :: [dS, dN, dR]) r → ¬ own (.ptr 3 0 0 :: [d4, dN, dR]) r := fun r hr hn ⟨i, hi⟩ => by
    match i, hi with
    | 0, hi => exact hn ⟨0, hi⟩
    | 1, hi => have := f4 r (by simpa using hi); omega
    | 2, hi => exact hn ⟨2, hi⟩
    | 3, hi => exact hn ⟨3, hi⟩
    | i + 4, hi => simp [ud, objsD] at hi
  have keep : ∀ r, r < H.length → ¬ own (.ptr 3 0 0 :: [dS, dN, dR]) r → hget H4 r = hget H r := fun r hr hn => k4 r hr fun ho => hn ⟨1, ho⟩
  have l0 := lt_of_hget h.h0
  have l1 := lt_of_hget h.h1
  have lr := lt_of_hget g.h
  have h3 := h.h3
  refine ⟨d4, H4, a4, ⟨m4, (keep 0 l0 h.n0).trans h.h0, (keep 1 l1 h.n1).trans h.h1, M4.trans h3, no 0 l0 h.n0, no 1 l1 h.n1⟩, ⟨(keep r lr g.no).trans g.h, no r lr g.no, g.r0, g.r1⟩, p1, p2, p3⟩
theorem RbAt.appN {n : Nfa} {dS dN dR : D} {X0 X1 X2 : List D} {H : Heap} (h : RbAt n [dS, dN, dR] [X0, X1, X2] H) {row : List Int} (hr : row.length = 16) (hx : headSize 16 X1 = true) (hm : X1.length ≤ 1000) :
    ∃ d' H2, appendD Tryz.prog 25 (H ++ [.arr [rowD row]]) dN (.vec H.length 0 1) = some (d', H2) ∧ hget H2 3 = .arr [.agg [dN, dR]] ∧ 3 < H2.length ∧ RbAt n [dS, d', dR] [X0, X1 ++ [rowD row], X2] (H2.set 3 (.arr [.agg [d', dR]])) ∧ d'.cells = [d'] ∧ aggQ d' = false ∧ noTup d' = true := by
  obtain ⟨d4, H4, a4, m4, M4, l4, k4, f4, p1, p2, p3⟩ := h.ms.app (p := 1) (by simp) (H1 := H ++ [.arr [rowD row]]) el25 sz62 by62 zrR7 rfl (by decide) (by simp) (fun r hr => hget_app_lt hr) (add_new (.inl (strip_row row))) (by rw [row_cells]; simp [hr]) hx (by simp; omega)
  simp only [List.set_cons_zero, List.set_cons_succ, List.getD_cons_zero, List.getD_cons_succ] at m4 a4 k4
  have no : ∀ r, r < H.length → ¬ own (.ptr 3 0 0 :: [dS, dN, dR]) r → ¬ own (.ptr 3 0 0 :: [dS, d4, dR]) r := fun r hr hn ⟨i, hi⟩ => by
    match i, hi with
    | 0, hi => exact hn ⟨0, hi⟩
    | 1, hi => exact hn ⟨1, hi⟩
    | 2, hi => have := f4 r (by simpa using hi); omega
    | 3, hi => exact hn ⟨3, hi⟩
    | i + 4, hi => simp [ud, objsD] at hi
  have keep : ∀ r ob, r < H.length → ¬ own (.ptr 3 0 0 :: [dS, dN, dR]) r → hget (H4.set 3 ob) r = hget H r := fun r ob hr hn => by
    rw [hget_set_ne fun e => hn ⟨0, by simp [objsD, e]⟩, k4 r hr fun ho => hn ⟨2, ho⟩]
  have l0 := lt_of_hget h.h0
  have l1 := lt_of_hget h.h1
  exact ⟨d4, H4, a4, M4.trans h.h3, m4.m, ⟨m4.setM _, (keep 0 _ l0 h.n0).trans h.h0, (keep 1 _ l1 h.n1).trans h.h1, hget_set_eq m4.m, no 0 l0 h.n0, no 1 l1 h.n1⟩, p1, p2, p3⟩
theorem RbAt.appR {n : Nfa} {dS dN dR : D} {X0 X1 X2 : List D} {H : Heap} (h : RbAt n [dS, dN, dR] [X0, X1, X2] H) (x : Int) (hx : headSize 1 X2 = true) (hm : X2.length ≤ 1000) :
    ∃ d' H2, appendD Tryz.prog 26 H dR (.sl false [.int .i64 x]) = some (d', H2) ∧ hget H2 3 = .arr [.agg [dN, dR]] ∧ 3 < H2.length ∧ RbAt n [dS, dN, d'] [X0, X1, X2 ++ [.int .i64 x]] (H2.set 3 (.arr [.agg [dN, d']])) ∧ d'.cells = [d'] ∧ aggQ d' = false ∧ noTup d' = true := by
  obtain ⟨d4, H4, a4, m4, M4, l4, k4, f4, p1, p2, p3⟩ := h.ms.app (p := 2) (by simp) (H1 := H) el26 sz3 by3 zr3 rfl (by decide) (by simp) (fun r hr => rfl) (q := .int .i64 x) (y := .sl false [.int .i64 x]) rfl rfl hx (by simp; omega)
  simp only [List.set_cons_zero, List.set_cons_succ, List.getD_cons_zero, List.getD_cons_succ] at m4 a4 k4
  have no : ∀ r, r < H.length → ¬ own (.ptr 3 0 0 :: [dS, dN, dR]) r → ¬ own (.ptr 3 0 0 :: [dS, dN, d4]) r := fun r hr hn ⟨i, hi⟩ => by
    match i, hi with
    | 0, hi => exact hn ⟨0, hi⟩
    | 1, hi => exact hn ⟨1, hi⟩
    | 2, hi => exact hn ⟨2, hi⟩
    | 3, hi => have := f4 r (by simpa using hi); omega
    | i + 4, hi => simp [ud, objsD] at hi
  have keep : ∀ r ob, r < H.length → ¬ own (.ptr 3 0 0 :: [dS, dN, dR]) r → hget (H4.set 3 ob) r = hget H r := fun r ob hr hn => by
    rw [hget_set_ne fun e => hn ⟨0, by simp [objsD, e]⟩, k4 r hr fun ho => hn ⟨3, ho⟩]
  have l0 := lt_of_hget h.h0
  have l1 := lt_of_hget h.h1
  exact ⟨d4, H4, a4, M4.trans h.h3, m4.m, ⟨m4.setM _, (keep 0 _ l0 h.n0).trans h.h0, (keep 1 _ l1 h.n1).trans h.h1, hget_set_eq m4.m, no 0 l0 h.n0, no 1 l1 h.n1⟩, p1, p2, p3⟩
set_option maxRecDepth 20000 in
theorem rbuild_ok (l : List Rx) (hl2 : ∀ (i : Nat) (h : i < l.length), i < 16 → okR l[i]) (hll : l.length ≤ 100000) : PureF Tryz.prog A 7 [rxsD l] (dbD (dbuild l)) := by
  have hB := refbuild_ok l hl2 hll
  rw [(ref_build l).1] at hB
  refine evF_inB (n := 124) (rs := [.cell 2 28, .tmp 3]) Tryz.func7 rfl rfl rfl rfl rfl rfl ?_
  repeat' (first | refine wz1 ?_ | refine wz2 ?_ | refine wz3 ?_ | refine wz4 ?_ | refine wz5 ?_ | refine wz6 ?_ | simp -dsimp (maxSteps:=999999) (disch:=omega) only[go_sem,simprocAttr, *,zrN7, zrD7] | ((first | refine wz8 (fun hh => ?_) (fun hh => ?_) | refine wz9 (fun hh => ?_) (fun hh => ?_) | refine wpB_cond (by simp -dsimp (maxSteps:=999999) (disch:=omega) only[go_sem,simprocAttr, *,zrN7, zrD7]; exact rfl) (fun hh => ?_) (fun hh => ?_)) <;> (try replace hh := vqs hh) <;> (try (exfalso; first | exact hh | omega))))
  refine evB_plain bo21 rfl rfl (strip_rxsD' l) hB ?_
  unfold dbuild
  cases hb : buildN l with
  | none =>
    have a1 := nfa_noTup emptyN
    have a2 : (nfaD emptyN).cells = [.sl false (emptyN.free.map isD), .sl false (emptyN.set.map (.int .u16)), isD emptyN.to, isD emptyN.rule] := rfl
    have a3 := nfa_aggQ emptyN
    repeat' (first | refine wz1 ?_ | refine wz2 ?_ | refine wz3 ?_ | refine wz4 ?_ | refine wz5 ?_ | refine wz6 ?_ | simp -dsimp (maxSteps:=999999) (disch:=omega) only[go_sem,simprocAttr, *,refD, zrN7, zrD7, bdD7] | ((first | refine wz8 (fun hh => ?_) (fun hh => ?_) | refine wz9 (fun hh => ?_) (fun hh => ?_) | refine wpB_cond (by simp -dsimp (maxSteps:=999999) (disch:=omega) only[go_sem,simprocAttr, *,refD, zrN7, zrD7, bdD7]; exact rfl) (fun hh => ?_) (fun hh => ?_)) <;> (try replace hh := vqs hh) <;> (try (exfalso; first | exact hh | omega))))
    exact outPure_strip rfl
  | some n =>
    obtain ⟨-, g2, g3, g4⟩ := build_right hb
    have a1 := nfa_noTup n
    have a2 : (nfaD n).cells = [.sl false (n.free.map isD), .sl false (n.set.map (.int .u16)), .sl false (n.to.map (.int .i64)), .sl false (n.rule.map (.int .i64))] := rfl
    have a3 := nfa_aggQ n
    obtain ⟨hk1, hk2, hkf, hkt, hkr, -⟩ := right_row g3
    have hT := rtable_ok n.set.length hk1 (by omega)
    have hC := fun l => rclose_ok n l g3 g2.fl
    have hS := fun c l => rstep_ok n c l g3
    have hE := fun l h => rends_ok n l g3 h
    have hSa := fun a b ha hb => rsame_ok n.set.length a b ha hb (by omega)
    have hC0 := hC [0]
    have s1 : stripL [isD [0], .int .i64 n.set.length] = some [isD [0], .int .i64 n.set.length] := strip2 (strip_is _) rfl
    have s2 := stripNt n n.set.length [0]
    rw [show isD [0] = .sl false [.int .i64 0] from rfl] at hT s1
    have hz := clos_zero hk1
    clear hB hl2 hb
    simp only
    generalize hG : runB n 202 0 [clos n [0]] [] = G
    replace hG : Hid (runB n 202 0 [clos n [0]] [] = G) := hG
    repeat' (first | refine wz1 ?_ | refine wz2 ?_ | refine wz3 ?_ | refine wz4 ?_ | refine wz5 ?_ | refine wz6 ?_ | simp -dsimp (maxSteps:=999999) (disch:=omega) only[go_sem,simprocAttr, *,refD, zrN7, zrD7] | ((first | refine wz8 (fun hh => ?_) (fun hh => ?_) | refine wz9 (fun hh => ?_) (fun hh => ?_) | refine wpB_cond (by simp -dsimp (maxSteps:=999999) (disch:=omega) only[go_sem,simprocAttr, *,refD, zrN7, zrD7]; exact rfl) (fun hh => ?_) (fun hh => ?_)) <;> (try replace hh := vqs hh) <;> (try (exfalso; first | exact hh | omega))))
    refine wpB_regionXL (prs := []) (by kernel_rfl) rfl (by kernel_rfl) ?_; simp -dsimp (maxSteps:=999999) (disch:=omega) only[go_sem,simprocAttr, *]
    refine ⟨fun _ => rfl, evB_plain bo23 rfl rfl s1 hT ?_⟩
    simp -dsimp (maxSteps:=999999) (disch:=omega) only[go_sem,simprocAttr, *]
    refine ⟨fun _ => rfl, evB_plain bo22 rfl rfl s2 hC0 ?_⟩
    have hv0 : vecO (.arr [tabL n.set.length (clos n [0])]) 1 = true := rfl
    have t1 := fun l => tabL_cells n.set.length l
    have t2 := fun l => tabL_noTup n.set.length l
    have t3 := fun l => tabL_aggQ n.set.length l
    simp -dsimp (maxSteps:=999999) (disch:=omega) only[go_sem,simprocAttr, *]
    have hR0 : RbAt n [.vec 2 0 1, .sl true [], .sl true []] [[clos n [0]].map (tabL n.set.length), ([] : List (List Int)).map rowD, (([clos n [0]].take 0).map (endsZ n)).map (.int .i64)] [Ob.arr [D.agg [D.sl true [], D.sl true []]], Ob.arr [nfaD n], Ob.arr [tabL n.set.length (clos n [0])], Ob.arr [D.agg [D.sl true [], D.sl true []]]] := by
      refine ⟨⟨fun i hi => ?_, rfl, fun i j hij r hi hj => ?_, by simp⟩, rfl, rfl, rfl, ?_, ?_⟩
      · match i, hi with
        | 0, _ => exact .inr ⟨by simp, 2, rfl, rfl, by simp⟩
        | 1, _ => exact VecIs.nil
        | 2, _ => exact VecIs.nil
      · have hA : ∀ i : Nat, ∀ r, r ∈ objsD (([D.ptr 3 0 0, D.vec 2 0 1, D.sl true [], D.sl true []] : List D).getD i ud) → (i = 0 ∧ r = 3) ∨ (i = 1 ∧ r = 2) := fun i r h => by
          match i, h with
          | 0, h => exact .inl ⟨rfl, by simpa [objsD] using h⟩
          | 1, h => exact .inr ⟨rfl, by simpa [objsD] using h⟩
          | 2, h => cases h
          | 3, h => cases h
          | i + 4, h => simp [ud, objsD] at h
        have := hA i r hi
        have := hA j r hj
        omega
      · rintro ⟨i, hi⟩
        match i, hi with
        | 0, h => simp [objsD] at h
        | 1, h => simp [objsD] at h
        | 2, h => cases h
        | 3, h => cases h
        | i + 4, h => simp [ud, objsD] at h
      · rintro ⟨i, hi⟩
        match i, hi with
        | 0, h => simp [objsD] at h
        | 1, h => simp [objsD] at h
        | 2, h => cases h
        | 3, h => cases h
        | i + 4, h => simp [ud, objsD] at h
    have hI := done_zero (n := n) hz
    clear hC0 s1 s2 hT hv0
    repeat' (first | refine wz1 ?_ | refine wz2 ?_ | refine wz3 ?_ | refine wz4 ?_ | refine wz5 ?_ | refine wz6 ?_ | simp -dsimp (maxSteps:=999999) (disch:=omega) only[go_sem,simprocAttr, *,refD, zrN7, zrD7] | ((first | refine wz8 (fun hh => ?_) (fun hh => ?_) | refine wz9 (fun hh => ?_) (fun hh => ?_) | refine wpB_cond (by simp -dsimp (maxSteps:=999999) (disch:=omega) only[go_sem,simprocAttr, *,refD, zrN7, zrD7]; exact rfl) (fun hh => ?_) (fun hh => ?_)) <;> (try replace hh := vqs hh) <;> (try (exfalso; first | exact hh | omega))))
    generalize [Ob.arr [D.agg [D.sl true [], D.sl true []]], Ob.arr [nfaD n], Ob.arr [tabL n.set.length (clos n [0])], Ob.arr [D.agg [D.sl true [], D.sl true []]]] = H1 at *
    refine wpB_loop (fun e Hi => ∃ (k i : Nat) (ls nx : List (List Int)) (ds : List D), k + i = 202 ∧ DoneI n i ls nx ∧ ls.length ≤ 200 ∧ RbAt n ds [ls.map (tabL n.set.length), nx.map rowD, ((ls.take i).map (endsZ n)).map (.int .i64)] Hi ∧ G = runB n k i ls nx ∧ e 2 = .ptr 0 0 0 ∧ e 4 = .ptr 1 0 0 ∧ e 6 = .int .i64 n.set.length ∧ e 7 = ds.getD 0 ud ∧ e 8 = .ptr 3 0 0 ∧ e 9 = .int .i64 i) (fun e H => 202 - natOf (e 9)) ?_ ?_
    · exact ⟨202, 0, _, _, _, by omega, hI, by simp, hR0, Eq.symm hG, gs, gs, gs, gs, gs, gs⟩
    clear hG hI hR0
    rintro e Hi ⟨k, i, ls, nx, ds, hk, hI, hls, hd, hG, e2, e4, e6, e7, e8, e9⟩ R hR
    obtain ⟨k, rfl⟩ : ∃ k', k = k' + 1 := ⟨k - 1, by have := hI.le; omega⟩
    obtain ⟨dS, dN, dR, rfl⟩ := rb_three hd
    have h0 := hd.h0
    have h1 := hd.h1
    have h3 := hd.h3
    simp only [List.getD_cons_zero, List.getD_cons_succ] at h3 e7
    have hlen := fun HH => vec_len (e := 66) (hd.ms.v 0 (by simp)) HH
    simp only [List.getD_cons_zero, List.getD_cons_succ, List.length_map] at hlen
    rw [runB] at hG
    by_cases hb : i < ls.length
    case neg =>
      rw [if_neg hb] at hG
      subst hG
      have hvN := hd.ms.v 1 (by simp)
      have hvR := hd.ms.v 2 (by simp)
      simp only [List.getD_cons_zero, List.getD_cons_succ] at hvN hvR
      have hl0 := lt_of_hget h0
      have k1 : ∀ ob, VecIs dN (Hi.set 0 ob) (nx.map rowD) := fun ob => vec_keep hvN (by simp) fun r hr => hget_set_ne fun e => hd.n0 (e ▸ ⟨2, by simpa using hr⟩)
      have k2 : ∀ ob, VecIs dR (Hi.set 0 ob) (((ls.take i).map (endsZ n)).map (.int .i64)) := fun ob => vec_keep hvR (by simp) fun r hr => hget_set_ne fun e => hd.n0 (e ▸ ⟨3, by simpa using hr⟩)
      have hout := fun ob => out_dk (k1 ob) (k2 ob) 0
      rw [List.take_of_length_le (by omega)] at hout
      clear k1 k2 hvN hvR hd
      repeat' (first | refine wz1 ?_ | refine wz2 ?_ | refine wz3 ?_ | refine wz4 ?_ | refine wz5 ?_ | refine wz6 ?_ | simp -dsimp (maxSteps:=999999) (disch:=omega) only[go_sem,simprocAttr, *] | ((first | refine wz8 (fun hh => ?_) (fun hh => ?_) | refine wz9 (fun hh => ?_) (fun hh => ?_) | refine wz7 (fun hh => ?_) (fun hh => ?_)) <;> (try replace hh := vqs hh) <;> (try (exfalso; first | exact hh | omega))))
      exact hout _
    rw [if_pos hb] at hG
    obtain ⟨q, hq⟩ : ∃ q, ls[i]? = some q := ⟨_, List.getElem?_eq_getElem hb⟩
    have hqd : ls.getD i [] = q := by simp [List.getD_eq_getElem?_getD, hq]
    rw [hqd] at hG
    have hIs := hI.step hb
    rw [hqd] at hIs
    repeat' (first | refine wz1 ?_ | refine wz2 ?_ | refine wz3 ?_ | refine wz4 ?_ | refine wz5 ?_ | refine wz6 ?_ | simp -dsimp (maxSteps:=999999) (disch:=omega) only[go_sem,simprocAttr, *,zrR7] | ((first | refine wz8 (fun hh => ?_) (fun hh => ?_) | refine wz9 (fun hh => ?_) (fun hh => ?_) | refine wpB_cond (by simp -dsimp (maxSteps:=999999) (disch:=omega) only[go_sem,simprocAttr, *,zrR7]; exact rfl) (fun hh => ?_) (fun hh => ?_)) <;> (try replace hh := vqs hh) <;> (try (exfalso; first | exact hh | omega))))
    have hdr : RbAt n [dS, dN, dR] [ls.map (tabL n.set.length), nx.map rowD, ((ls.take i).map (endsZ n)).map (.int .i64)] (Hi ++ [Ob.arr [rowD (rowZ [] 0)]]) := hd.grow _
    have hrr : RowAt [dS, dN, dR] Hi.length (rowZ [] 0) (Hi ++ [Ob.arr [rowD (rowZ [] 0)]]) := by
      refine ⟨hget_new, fun ⟨i, hi⟩ => ?_, fun e => by have := lt_of_hget h0; omega, fun e => by have := lt_of_hget h1; omega⟩
      cases i with
      | zero => have := hd.ms.m; simp [objsD] at hi; omega
      | succ i => have := hd.ms.lt (i := i) (by simpa using hi); omega
    generalize hrr8 : Hi.length = r8 at *
    generalize Hi ++ [Ob.arr [rowD (rowZ [] 0)]] = Hr at *
    have hgood := rowTo_good (s := q) hI.good
    have hold := rowTo_old n q ls
    have hlen2 := rowTo_len n q ls
    have hGq := hI.good q (List.mem_of_getElem? hq)
    refine wpB_loop (fun e Hj => ∃ (j : Nat) (ds : List D), j ≤ 16 ∧ RbAt n ds [(rowTo n q ls j).2.map (tabL n.set.length), nx.map rowD, ((ls.take i).map (endsZ n)).map (.int .i64)] Hj ∧ RowAt ds r8 (rowZ (rowTo n q ls j).1 j) Hj ∧ e 2 = .ptr 0 0 0 ∧ e 4 = .ptr 1 0 0 ∧ e 6 = .int .i64 n.set.length ∧ e 7 = ds.getD 0 ud ∧ e 8 = .ptr 3 0 0 ∧ e 9 = .int .i64 i ∧ e 10 = .ptr r8 0 0 ∧ e 11 = .int .i64 j) (fun e H => 16 - natOf (e 11)) ?_ ?_
    · exact ⟨0, _, by omega, hdr, hrr, gs, gs, gs, gs, gs, gs, gs, gs⟩
    clear hdr hrr hd h0 h1 h3 hlen e2 e4 e6 e7 e8
    rintro e Hj ⟨j, ds, hj, hd, hr, e2, e4, e6, e7, e8, e9, e10, e11⟩ R2 hR2
    obtain ⟨dS, dN, dR, rfl⟩ := rb_three hd
    have h0 := hd.h0
    have h1 := hd.h1
    have h3 := hd.h3
    have h8 := hr.h
    simp only [List.getD_cons_zero, List.getD_cons_succ] at h3 e7
    have hlj := hlen2 j
    by_cases hbj : j < 16
    · have hqj := hold j i q hq
      have hnz : (rowTo n q ls j).2 ≠ [] := by intro e; have k1 := hlj.2.1; have k2 := congrArg List.length e; simp only [List.length_nil] at k2; omega
      obtain ⟨rS, hdS, hgS, hrS⟩ := vec_get (hd.ms.v 0 (by simp)) (by simpa using hnz)
      simp only [List.getD_cons_zero, List.getD_cons_succ, List.length_map] at hdS hgS
      have hil : i < (rowTo n q ls j).2.length := (List.getElem?_eq_some_iff.1 hqj).1
      have hr8S : r8 ≠ rS := fun e => hr.no ⟨1, by simp [hdS, objsD, e]⟩
      subst hdS
      have hz8 := rowZ_len hlj.1 (by omega : j ≤ 16)
      have hz9 := rowZ_set hlj.1 hbj (-1)
      have hl8 := lt_of_hget h8
      have hob : (D.agg (List.take (j * 1) (List.map (D.int .i64) (rowZ (rowTo n q ls j).1 j)) ++ [D.int .i64 (-1)] ++ List.drop (j * 1 + 1) (List.map (D.int .i64) (rowZ (rowTo n q ls j).1 j)))) = rowD (rowZ ((rowTo n q ls j).1 ++ [-1]) (j + 1)) := by
        rw [← hz9, Nat.mul_one]; simp [rowD, List.map_append, List.map_take, List.map_drop]
      have b1 := row_noTup (rowZ (rowTo n q ls j).1 j)
      have b2 := row_cells (rowZ (rowTo n q ls j).1 j)
      have b3 := row_aggQ (rowZ (rowTo n q ls j).1 j)
      have hd2 := hd.row hr (.arr [rowD (rowZ ((rowTo n q ls j).1 ++ [-1]) (j + 1))])
      have hr2 := hr.set (z2 := rowZ ((rowTo n q ls j).1 ++ [-1]) (j + 1))
      have h12 := hd2.h1
      have hgS2 : hget (Hj.set r8 (.arr [rowD (rowZ ((rowTo n q ls j).1 ++ [-1]) (j + 1))])) rS = _ := (hget_set_ne hr8S).trans hgS
      have hvs : vecSize (Hj.set r8 (.arr [rowD (rowZ ((rowTo n q ls j).1 ++ [-1]) (j + 1))])) rS 1 = true := vecSize_of hgS2 (by simpa using hnz) (headTabs _ _)
      have hqm : ((rowTo n q ls j).2.map (tabL n.set.length))[i]? = some (tabL n.set.length q) := by simp [hqj]
      have hSj := hS j q
      have s3 := stripNtc n n.set.length q j
      clear hd hr h0 h1 h3 hgS
      repeat' (first | refine wz1 ?_ | refine wz2 ?_ | refine wz3 ?_ | refine wz4 ?_ | refine wz5 ?_ | refine wz6 ?_ | simp -dsimp (maxSteps:=999999) (disch:=omega) only[go_sem,simprocAttr, *] | ((first | refine wz8 (fun hh => ?_) (fun hh => ?_) | refine wz9 (fun hh => ?_) (fun hh => ?_) | refine wz7 (fun hh => ?_) (fun hh => ?_)) <;> (try replace hh := vqs hh) <;> (try (exfalso; first | exact hh | omega))))
      refine wpB_regionXL (prs := []) (by kernel_rfl) rfl (by kernel_rfl) ?_; simp -dsimp (maxSteps:=999999) (disch:=omega) only[go_sem,simprocAttr, *]
      refine ⟨fun _ => rfl, evB_plain bo24 rfl rfl s3 hSj ?_⟩
      simp -dsimp (maxSteps:=999999) (disch:=omega) only[go_sem,simprocAttr, *]
      repeat' (first | refine wz1 ?_ | refine wz2 ?_ | refine wz3 ?_ | refine wz4 ?_ | refine wz5 ?_ | refine wz6 ?_ | simp -dsimp (maxSteps:=999999) (disch:=omega) only[go_sem,simprocAttr, *] | ((first | refine wz8 (fun hh => ?_) (fun hh => ?_) | refine wz9 (fun hh => ?_) (fun hh => ?_) | refine wz7 (fun hh => ?_) (fun hh => ?_)) <;> (try replace hh := vqs hh) <;> (try (exfalso; first | exact hh | omega))))
      generalize Hj.set r8 (.arr [rowD (rowZ ((rowTo n q ls j).1 ++ [-1]) (j + 1))]) = H3 at *
      have hsL := stp_isL n j q
      have hlead : leadN n j q = clos n (stp n j q) := rfl
      generalize hsp : stp n j q = sp at *
      refine wpB_loop (fun e Hx => ∃ x : Nat, x ≤ n.set.length ∧ Hx = H3 ∧ e 2 = .ptr 0 0 0 ∧ e 4 = .ptr 1 0 0 ∧ e 6 = .int .i64 n.set.length ∧ e 7 = .vec rS 0 (rowTo n q ls j).2.length ∧ e 8 = .ptr 3 0 0 ∧ e 9 = .int .i64 i ∧ e 10 = .ptr r8 0 0 ∧ e 11 = .int .i64 j ∧ e 12 = tabL n.set.length sp ∧ e 13 = .bool (anyTo sp x) ∧ e 14 = .int .i64 x) (fun e H => n.set.length - natOf (e 14)) ?_ ?_
      · have ha0 : anyTo sp 0 = false := rfl
        exact ⟨0, by omega, rfl, gs, gs, gs, gs, gs, gs, gs, gs, gs, gs, gs⟩
      clear e2 e4 e6 e7 e8 e9 e10
      rintro e Hx ⟨x, hx, rfl, e2, e4, e6, e7, e8, e9, e10, e11, e12, e13, e14⟩ R3 hR3
      by_cases hbx : x < n.set.length
      · have g1 : (tabD n.set.length fun s => decide ((s : Int) ∈ sp))[x]? = some (.bool (decide ((x : Int) ∈ sp))) := tabD_at hbx
        have la : (tabD n.set.length fun s => decide ((s : Int) ∈ sp)).length = n.set.length := tabD_len
        have hsc := anyTo_succ sp x
        rw [show tabL n.set.length sp = .sl false (tabD n.set.length fun s => decide ((s : Int) ∈ sp)) from rfl] at e12
        generalize decide ((x : Int) ∈ sp) = bx at *
        generalize anyTo sp x = ax at *
        clear hS hC hE hSa hold hlen2 hgood hG hIs
        cases ax
        · simp only [Bool.false_or] at hsc
          repeat' (first | refine wz1 ?_ | refine wz2 ?_ | refine wz3 ?_ | refine wz4 ?_ | refine wz5 ?_ | refine wz6 ?_ | simp -dsimp (maxSteps:=999999) (disch:=omega) only[go_sem,simprocAttr, *] | ((first | refine wz8 (fun hh => ?_) (fun hh => ?_) | refine wz9 (fun hh => ?_) (fun hh => ?_) | refine wz7 (fun hh => ?_) (fun hh => ?_)) <;> (try replace hh := vqs hh) <;> (try (exfalso; first | exact hh | omega))))
          refine hR3 _ _ ⟨x + 1, by omega, rfl, gs, gs, gs, gs, gs, gs, gs, gs, Eq.trans (b := D.sl false (tabD n.set.length fun s => decide ((s : Int) ∈ sp))) (gs) rfl, by rw [hsc]; simp -dsimp (maxSteps:=999999) (disch:=omega) only[go_sem,simprocAttr, *], gs⟩ ?_
          simp -dsimp (maxSteps:=999999) (disch:=omega) only[go_sem,simprocAttr, *,natOf_int]
        · simp only [Bool.true_or] at hsc
          repeat' (first | refine wz1 ?_ | refine wz2 ?_ | refine wz3 ?_ | refine wz4 ?_ | refine wz5 ?_ | refine wz6 ?_ | simp -dsimp (maxSteps:=999999) (disch:=omega) only[go_sem,simprocAttr, *] | ((first | refine wz8 (fun hh => ?_) (fun hh => ?_) | refine wz9 (fun hh => ?_) (fun hh => ?_) | refine wz7 (fun hh => ?_) (fun hh => ?_)) <;> (try replace hh := vqs hh) <;> (try (exfalso; first | exact hh | omega))))
          refine hR3 _ _ ⟨x + 1, by omega, rfl, gs, gs, gs, gs, gs, gs, gs, gs, Eq.trans (b := D.sl false (tabD n.set.length fun s => decide ((s : Int) ∈ sp))) (gs) rfl, by rw [hsc]; simp -dsimp (maxSteps:=999999) (disch:=omega) only[go_sem,simprocAttr, *], gs⟩ ?_
          simp -dsimp (maxSteps:=999999) (disch:=omega) only[go_sem,simprocAttr, *,natOf_int]
      obtain rfl : x = n.set.length := by omega
      have hany := anyTo_all hsL
      have hre1 : (rowTo n q ls (j + 1)).1 = (rowTo n q ls j).1 ++ [(addS (rowTo n q ls j).2 (clos n sp)).1] := by rw [← hlead]; rfl
      have hre2 : (rowTo n q ls (j + 1)).2 = (addS (rowTo n q ls j).2 (clos n sp)).2 := by rw [← hlead]; rfl
      by_cases hsp0 : sp = []
      · have ha : anyTo sp n.set.length = false := by
          cases h : anyTo sp n.set.length with
          | false => rfl
          | true => exact absurd hsp0 (hany.1 h)
        have hc0 : clos n sp = [] := by rw [hsp0, clos_nil]
        have had : addS (rowTo n q ls j).2 (clos n sp) = (-1, (rowTo n q ls j).2) := by rw [addS, if_pos hc0]
        rw [had] at hre1 hre2
        rw [ha] at e13
        clear hany hold hlen2 hgood hG hIs hS hC hE hSa hSj s3 hob
        repeat' (first | refine wz1 ?_ | refine wz2 ?_ | refine wz3 ?_ | refine wz4 ?_ | refine wz5 ?_ | refine wz6 ?_ | simp -dsimp (maxSteps:=999999) (disch:=omega) only[go_sem,simprocAttr, *] | ((first | refine wz8 (fun hh => ?_) (fun hh => ?_) | refine wz9 (fun hh => ?_) (fun hh => ?_) | refine wz7 (fun hh => ?_) (fun hh => ?_)) <;> (try replace hh := vqs hh) <;> (try (exfalso; first | exact hh | omega))))
        refine hR2 _ _ ⟨j + 1, [.vec rS 0 (rowTo n q ls j).2.length, dN, dR], by omega, by rw [hre2]; exact hd2, by rw [hre1]; exact hr2, gs, gs, gs, gs, gs, gs, gs, gs⟩ ?_
        simp -dsimp (maxSteps:=999999) (disch:=omega) only[go_sem,simprocAttr, *,natOf_int]
      · have ha : anyTo sp n.set.length = true := hany.2 hsp0
        have hcn : clos n sp ≠ [] := clos_ne hsL hsp0
        rw [ha] at e13
        have hCs := hC sp
        have s4 := stripNt n n.set.length sp
        have hcL := clos_isL n sp
        clear hSj s3 hob hany
        repeat' (first | refine wz1 ?_ | refine wz2 ?_ | refine wz3 ?_ | refine wz4 ?_ | refine wz5 ?_ | refine wz6 ?_ | simp -dsimp (maxSteps:=999999) (disch:=omega) only[go_sem,simprocAttr, *] | ((first | refine wz8 (fun hh => ?_) (fun hh => ?_) | refine wz9 (fun hh => ?_) (fun hh => ?_) | refine wz7 (fun hh => ?_) (fun hh => ?_)) <;> (try replace hh := vqs hh) <;> (try (exfalso; first | exact hh | omega))))
        refine evB_plain bo22 rfl rfl s4 hCs ?_
        repeat' (first | refine wz1 ?_ | refine wz2 ?_ | refine wz3 ?_ | refine wz4 ?_ | refine wz5 ?_ | refine wz6 ?_ | simp -dsimp (maxSteps:=999999) (disch:=omega) only[go_sem,simprocAttr, *] | ((first | refine wz8 (fun hh => ?_) (fun hh => ?_) | refine wz9 (fun hh => ?_) (fun hh => ?_) | refine wz7 (fun hh => ?_) (fun hh => ?_)) <;> (try replace hh := vqs hh) <;> (try (exfalso; first | exact hh | omega))))
        clear hS hC hE s4 hCs hold hlen2 hI hIs hG hb hq hqd hGq
        generalize hcc : clos n sp = c at *
        generalize hSS : (rowTo n q ls j).2 = S at *
        generalize hrr : (rowTo n q ls j).1 = r at *
        have hrj : r.length = j := hlj.1
        have hSl : S.length ≤ 216 := by have := hlj.2.2; omega
        have hSg : ∀ y ∈ S, IsL n.set.length y := fun y hy => by
          obtain ⟨-, l, rfl⟩ := hgood j y (by rw [hSS]; exact hy)
          exact clos_isL n l
        clear hgood hlj hz9 b1 b2 b3 h8 hl8 hvs hqm hgS2 h12
        refine wpB_loop (fun e Hy => ∃ (x : Nat) (v : Int), x ≤ S.length ∧ RbAt n [.vec rS 0 S.length, dN, dR] [S.map (tabL n.set.length), nx.map rowD, ((ls.take i).map (endsZ n)).map (.int .i64)] Hy ∧ RowAt [.vec rS 0 S.length, dN, dR] r8 (rowZ (r ++ [v]) (j + 1)) Hy ∧ ((v = -1 ∧ placeS c 0 S = placeS c x (S.drop x)) ∨ ∃ p : Nat, v = p ∧ placeS c 0 S = some p) ∧ e 2 = .ptr 0 0 0 ∧ e 4 = .ptr 1 0 0 ∧ e 6 = .int .i64 n.set.length ∧ e 7 = .vec rS 0 S.length ∧ e 8 = .ptr 3 0 0 ∧ e 9 = .int .i64 i ∧ e 10 = .ptr r8 0 0 ∧ e 11 = .int .i64 j ∧ e 12 = tabL n.set.length c ∧ e 15 = .int .i64 x) (fun e H => S.length - natOf (e 15)) ?_ ?_
        · exact ⟨0, -1, by omega, hd2, hr2, .inl ⟨rfl, by simp⟩, gs, gs, gs, gs, gs, gs, gs, gs, gs, gs⟩
        clear e2 e4 e6 e7 e8 e9 e10 e11 e12 e13 e14 hd2 hr2 hsp
        rintro e Hy ⟨x, v, hx, hd, hr, hv, e2, e4, e6, e7, e8, e9, e10, e11, e12, e15⟩ R4 hR4
        have hl8 := lt_of_hget hr.h
        have h8 := hr.h
        have hz9 : ∀ y, rowZ (r ++ [y]) (j + 1) = (rowZ (r ++ [v]) (j + 1)).take j ++ y :: (rowZ (r ++ [v]) (j + 1)).drop (j + 1) := fun y => (rowZ_set2 hrj y v).symm
        have hob : ∀ y, (D.agg (List.take (j * 1) (List.map (D.int .i64) (rowZ (r ++ [v]) (j + 1))) ++ [D.int .i64 y] ++ List.drop (j * 1 + 1) (List.map (D.int .i64) (rowZ (r ++ [v]) (j + 1))))) = rowD (rowZ (r ++ [y]) (j + 1)) := fun y => by
          rw [hz9 y, Nat.mul_one]; simp [rowD, List.map_append, List.map_take, List.map_drop]
        clear hz9
        have hz8 : (rowZ (r ++ [v]) (j + 1)).length = 16 := rowZ_len (by simp [hrj]) (by omega)
        have hat : (rowZ (r ++ [v]) (j + 1))[j]? = some v := rowZ_at hrj
        have hat2 : ∀ h, (rowZ (r ++ [v]) (j + 1))[j * 1]'h = v := fun h => by
          exact Option.some.inj ((List.getElem?_eq_getElem h).symm.trans (by rw [show j * 1 = j by omega]; exact hat))
        have hat3 : ∀ h, (rowZ (r ++ [v]) (j + 1))[j]'h = v := fun h => by
          have e := List.getElem?_eq_getElem h
          rw [hat] at e
          exact (Option.some.inj e).symm
        have b1 := row_noTup (rowZ (r ++ [v]) (j + 1))
        have b2 := row_cells (rowZ (r ++ [v]) (j + 1))
        have b3 := row_aggQ (rowZ (r ++ [v]) (j + 1))
        by_cases hgo : x < S.length ∧ v < 0
        · obtain ⟨hxS, hv0⟩ := hgo
          obtain ⟨rfl, hpl⟩ : v = -1 ∧ placeS c 0 S = placeS c x (S.drop x) := by
            rcases hv with h | ⟨p, hp, _⟩
            · exact h
            · omega
          obtain ⟨y, hy⟩ : ∃ y, S[x]? = some y := ⟨_, List.getElem?_eq_getElem hxS⟩
          have hyS := List.mem_of_getElem? hy
          have hsame := hSa y c (hSg y hyS) hcL
          have s5 := striptt n.set.length y c
          obtain ⟨rS', hdS', hgS, hrS'⟩ := vec_get (hd.ms.v 0 (by simp)) (by simp; intro e; rw [e] at hxS; cases hxS)
          simp only [List.getD_cons_zero] at hdS' hgS
          obtain rfl : rS = rS' := by injection hdS'
          have hvs : vecSize Hy rS 1 = true := vecSize_of hgS (by simp; intro e; rw [e] at hxS; cases hxS) (headTabs _ _)
          have hym : (S.map (tabL n.set.length))[x]? = some (tabL n.set.length y) := by simp [hy]
          rw [List.drop_eq_getElem_cons hxS] at hpl
          have hyg : S[x] = y := by rw [List.getElem?_eq_getElem hxS] at hy; exact Option.some.inj hy
          rw [hyg, placeS] at hpl
          clear hdS' hSa hSg hyS hyg hy hre1 hre2 hcc
          repeat' (first | refine wz1 ?_ | refine wz2 ?_ | refine wz3 ?_ | refine wz4 ?_ | refine wz5 ?_ | refine wz6 ?_ | simp -dsimp (maxSteps:=999999) (disch:=omega) only[go_sem,simprocAttr, *] | ((first | refine wz8 (fun hh => ?_) (fun hh => ?_) | refine wz9 (fun hh => ?_) (fun hh => ?_) | refine wz7 (fun hh => ?_) (fun hh => ?_)) <;> (try replace hh := vqs hh) <;> (try (exfalso; first | exact hh | omega))))
          refine evB_plain bo25 rfl rfl s5 hsame ?_
          by_cases heq : y = c
          · have hg1 : decide (y = c) = true := decide_eq_true heq
            rw [if_pos heq.symm] at hpl
            have hobx := hob x
            have hdx := hd.row hr (.arr [rowD (rowZ (r ++ [(x : Int)]) (j + 1))])
            have hrx := hr.set (z2 := rowZ (r ++ [(x : Int)]) (j + 1))
            clear hob hsame s5 hd hr
            repeat' (first | refine wz1 ?_ | refine wz2 ?_ | refine wz3 ?_ | refine wz4 ?_ | refine wz5 ?_ | refine wz6 ?_ | simp -dsimp (maxSteps:=999999) (disch:=omega) only[go_sem,simprocAttr, *] | ((first | refine wz8 (fun hh => ?_) (fun hh => ?_) | refine wz9 (fun hh => ?_) (fun hh => ?_) | refine wz7 (fun hh => ?_) (fun hh => ?_)) <;> (try replace hh := vqs hh) <;> (try (exfalso; first | exact hh | omega))))
            refine hR4 _ _ ⟨x + 1, x, by omega, hdx, hrx, .inr ⟨x, rfl, hpl⟩, gs, gs, gs, gs, gs, gs, gs, gs, gs, gs⟩ ?_
            simp -dsimp (maxSteps:=999999) (disch:=omega) only[go_sem,simprocAttr, *,natOf_int]
          · have hg1 : decide (y = c) = false := decide_eq_false heq
            rw [if_neg fun e => heq e.symm] at hpl
            clear hob hsame s5
            repeat' (first | refine wz1 ?_ | refine wz2 ?_ | refine wz3 ?_ | refine wz4 ?_ | refine wz5 ?_ | refine wz6 ?_ | simp -dsimp (maxSteps:=999999) (disch:=omega) only[go_sem,simprocAttr, *] | ((first | refine wz8 (fun hh => ?_) (fun hh => ?_) | refine wz9 (fun hh => ?_) (fun hh => ?_) | refine wz7 (fun hh => ?_) (fun hh => ?_)) <;> (try replace hh := vqs hh) <;> (try (exfalso; first | exact hh | omega))))
            refine hR4 _ _ ⟨x + 1, -1, by omega, hd, hr, .inl ⟨rfl, hpl⟩, gs, gs, gs, gs, gs, gs, gs, gs, gs, gs⟩ ?_
            simp -dsimp (maxSteps:=999999) (disch:=omega) only[go_sem,simprocAttr, *,natOf_int]
        · have hadd : addS S c = match placeS c 0 S with
            | some j => ((j : Int), S)
            | none => ((S.length : Int), S ++ [c]) := by rw [addS, if_neg hcn]; rfl
          rcases hv with ⟨rfl, hpl⟩ | ⟨p, rfl, hpl⟩
          · obtain rfl : x = S.length := by omega
            rw [List.drop_length] at hpl
            rw [show placeS c 0 S = none from hpl] at hadd
            simp only [hadd] at hre1 hre2
            have hobx := hob S.length
            have hdx := hd.row hr (.arr [rowD (rowZ (r ++ [(S.length : Int)]) (j + 1))])
            have hrx := hr.set (z2 := rowZ (r ++ [(S.length : Int)]) (j + 1))
            obtain ⟨d4, H4, a4, q1, q2, p1, p2, p3⟩ := hdx.app hrx n.set.length c (headTabs _ _) (by simp; omega)
            have hvc : vecO (.arr [tabL n.set.length c]) 1 = true := rfl
            rw [List.length_set] at a4
            have q1' : RbAt n [d4, dN, dR] [(S ++ [c]).map (tabL n.set.length), nx.map rowD, ((ls.take i).map (endsZ n)).map (.int .i64)] H4 := by simpa using q1
            clear hob hSa hSg hadd hd hr hdx hrx q1
            repeat' (first | refine wz1 ?_ | refine wz2 ?_ | refine wz3 ?_ | refine wz4 ?_ | refine wz5 ?_ | refine wz6 ?_ | simp -dsimp (maxSteps:=999999) (disch:=omega) only[go_sem,simprocAttr, *] | ((first | refine wz8 (fun hh => ?_) (fun hh => ?_) | refine wz9 (fun hh => ?_) (fun hh => ?_) | refine wz7 (fun hh => ?_) (fun hh => ?_)) <;> (try replace hh := vqs hh) <;> (try (exfalso; first | exact hh | omega))))
            refine hR2 _ _ ⟨j + 1, [d4, dN, dR], by omega, by rw [hre2]; exact q1', by rw [hre1]; exact q2, gs, gs, gs, gs, gs, gs, gs, gs⟩ ?_
            simp -dsimp (maxSteps:=999999) (disch:=omega) only[go_sem,simprocAttr, *,natOf_int]
          · rw [hpl] at hadd
            simp only [hadd] at hre1 hre2
            have hp0 : ¬ ((p : Int) < 0) := by omega
            clear hob hSa hSg hadd
            by_cases hxS : x < S.length
            · repeat' (first | refine wz1 ?_ | refine wz2 ?_ | refine wz3 ?_ | refine wz4 ?_ | refine wz5 ?_ | refine wz6 ?_ | simp -dsimp (maxSteps:=999999) (disch:=omega) only[go_sem,simprocAttr, *] | ((first | refine wz8 (fun hh => ?_) (fun hh => ?_) | refine wz9 (fun hh => ?_) (fun hh => ?_) | refine wz7 (fun hh => ?_) (fun hh => ?_)) <;> (try replace hh := vqs hh) <;> (try (exfalso; first | exact hh | omega))))
              refine hR2 _ _ ⟨j + 1, [.vec rS 0 S.length, dN, dR], by omega, by rw [hre2]; exact hd, by rw [hre1]; exact hr, gs, gs, gs, gs, gs, gs, gs, gs⟩ ?_
              simp -dsimp (maxSteps:=999999) (disch:=omega) only[go_sem,simprocAttr, *,natOf_int]
            · repeat' (first | refine wz1 ?_ | refine wz2 ?_ | refine wz3 ?_ | refine wz4 ?_ | refine wz5 ?_ | refine wz6 ?_ | simp -dsimp (maxSteps:=999999) (disch:=omega) only[go_sem,simprocAttr, *] | ((first | refine wz8 (fun hh => ?_) (fun hh => ?_) | refine wz9 (fun hh => ?_) (fun hh => ?_) | refine wz7 (fun hh => ?_) (fun hh => ?_)) <;> (try replace hh := vqs hh) <;> (try (exfalso; first | exact hh | omega))))
              refine hR2 _ _ ⟨j + 1, [.vec rS 0 S.length, dN, dR], by omega, by rw [hre2]; exact hd, by rw [hre1]; exact hr, gs, gs, gs, gs, gs, gs, gs, gs⟩ ?_
              simp -dsimp (maxSteps:=999999) (disch:=omega) only[go_sem,simprocAttr, *,natOf_int]
    · obtain rfl : j = 16 := by omega
      have hlen := fun HH => vec_len (e := 66) (hd.ms.v 0 (by simp)) HH
      simp only [List.getD_cons_zero, List.getD_cons_succ, List.length_map] at hlen
      by_cases hbig : 200 < (rowTo n q ls 16).2.length
      · rw [if_pos hbig] at hG
        subst hG
        have hl0 := lt_of_hget h0
        clear hlen2 hold hgood hI hIs hd hlj
        repeat' (first | refine wz1 ?_ | refine wz2 ?_ | refine wz3 ?_ | refine wz4 ?_ | refine wz5 ?_ | refine wz6 ?_ | simp -dsimp (maxSteps:=999999) (disch:=omega) only[go_sem,simprocAttr, *,bdD7] | ((first | refine wz8 (fun hh => ?_) (fun hh => ?_) | refine wz9 (fun hh => ?_) (fun hh => ?_) | refine wpB_cond (by simp -dsimp (maxSteps:=999999) (disch:=omega) only[go_sem,simprocAttr, *,bdD7]; exact rfl) (fun hh => ?_) (fun hh => ?_)) <;> (try replace hh := vqs hh) <;> (try (exfalso; first | exact hh | omega))))
        exact outPure_strip rfl
      · rw [if_neg hbig] at hG
        have hz8 : rowZ (rowTo n q ls 16).1 16 = (rowTo n q ls 16).1 := by simp [rowZ]
        rw [hz8] at h8
        have hr16 := hlj.1
        have hnl := hI.len
        have hqj := hold 16 i q hq
        have htake := take_end (n := n) (hold 16) hq
        have hqL : IsL n.set.length q := by
          obtain ⟨-, l, rfl⟩ := hGq
          exact clos_isL n l
        clear hlen2 hold hgood hz8
        generalize hrow : (rowTo n q ls 16).1 = row at *
        generalize hls2 : (rowTo n q ls 16).2 = ls2 at *
        have b1 := row_noTup row
        have b2 := row_cells row
        have b3 := row_aggQ row
        obtain ⟨d4, H4, a4, c4, c4', hd4, p1, p2, p3⟩ := hd.appN hr16 (headRows nx (fun r hr => by
          obtain ⟨j, hj, rfl⟩ := List.mem_iff_getElem.1 hr
          have := (hI.row j (by omega)).1
          rwa [List.getD_eq_getElem?_getD, List.getElem?_eq_getElem hj] at this)) (by simp; omega)
        obtain ⟨d5, H5, a5, c5, c5', hd5, q1, q2, q3⟩ := hd4.appR (endsZ n q) (headInts _) (by simp; omega)
        have hsr : stripL [rowD row] = some [rowD row] := strip1 (strip_row row)
        clear hd hr
        repeat' (first | refine wz1 ?_ | refine wz2 ?_ | refine wz3 ?_ | refine wz4 ?_ | refine wz5 ?_ | refine wz6 ?_ | simp -dsimp (maxSteps:=999999) (disch:=omega) only[go_sem,simprocAttr, *] | ((first | refine wz8 (fun hh => ?_) (fun hh => ?_) | refine wz9 (fun hh => ?_) (fun hh => ?_) | refine wz7 (fun hh => ?_) (fun hh => ?_)) <;> (try replace hh := vqs hh) <;> (try (exfalso; first | exact hh | omega))))
        have hnz : ls2 ≠ [] := by intro e; rw [e] at hqj; cases hqj
        obtain ⟨rS, hdS, hgS, hrS⟩ := vec_get (hd4.ms.v 0 (by simp)) (by simpa using hnz)
        simp only [List.getD_cons_zero, List.getD_cons_succ, List.length_map] at hdS hgS
        have hil : i < ls2.length := (List.getElem?_eq_some_iff.1 hqj).1
        subst hdS
        have f1 := hd4.h1
        have f3 := hd4.h3
        simp only [List.getD_cons_zero, List.getD_cons_succ] at f3
        generalize H4.set 3 (.arr [.agg [d4, dR]]) = J at *
        have hvs : vecSize J rS 1 = true := vecSize_of hgS (by simpa using hnz) (headTabs _ _)
        have hqm : (ls2.map (tabL n.set.length))[i]? = some (tabL n.set.length q) := by simp [hqj]
        have hEq := hE q hqL
        have s6 := stripNt n n.set.length q
        have hd5' : RbAt n [.vec rS 0 ls2.length, d4, d5] [ls2.map (tabL n.set.length), (nx ++ [row]).map rowD, ((ls2.take (i + 1)).map (endsZ n)).map (.int .i64)] (H5.set 3 (.arr [.agg [d4, d5]])) := by
          rw [htake]; simpa using hd5
        clear hd4 hd5 htake h0 h1 h3 h8 c4 c4' a4 hS hC hE hSa hI hb hq hqd hGq hqj hqL hlj hlen hrow hls2 hr16
        refine wpB_regionXL (prs := []) (by kernel_rfl) rfl (by kernel_rfl) ?_; simp -dsimp (maxSteps:=999999) (disch:=omega) only[go_sem,simprocAttr, *]
        refine ⟨fun _ => rfl, evB_plain bo26 rfl rfl s6 hEq ?_⟩
        simp -dsimp (maxSteps:=999999) (disch:=omega) only[go_sem,simprocAttr, *]
        refine ⟨rfl, ?_⟩
        repeat' (first | refine wz1 ?_ | refine wz2 ?_ | refine wz3 ?_ | refine wz4 ?_ | refine wz5 ?_ | refine wz6 ?_ | simp -dsimp (maxSteps:=999999) (disch:=omega) only[go_sem,simprocAttr, *] | ((first | refine wz8 (fun hh => ?_) (fun hh => ?_) | refine wz9 (fun hh => ?_) (fun hh => ?_) | refine wz7 (fun hh => ?_) (fun hh => ?_)) <;> (try replace hh := vqs hh) <;> (try (exfalso; first | exact hh | omega))))
        refine hR _ _ ⟨k, i + 1, ls2, nx ++ [row], _, by omega, hIs, by omega, hd5', hG, gs, gs, gs, gs, gs, gs⟩ ?_
        simp -dsimp (maxSteps:=999999) (disch:=omega) only[go_sem,simprocAttr, *,natOf_int]
end Go.Proofs.W
end
/- Whether expressions are more than are looked at, in the chapter on machines without free steps. -/
section
set_option maxHeartbeats 4000000
set_option linter.unusedVariables false
set_option linter.unusedSimpArgs false
namespace Go.Proofs.W
open Go Vm Go.Proofs.Zs7z

def sum7 (l : List Rx) : Nat := (l.map fun r => if rightR r then nodesR r else 0).sum
theorem sum7_app (l : List Rx) (r : Rx) : sum7 (l ++ [r]) = sum7 l + if rightR r then nodesR r else 0 := by simp [sum7]
def great7 (l : List Rx) : Bool := (l.take 17).any (greatR 20) || (decide (20 < l.length) || decide (120 < sum7 (l.take 17)))
theorem right_nodes {r : Rx} (h : rightR r = true) : depth r ≤ 12 ∧ nodesR r ≤ 100 := by
  simp only [rightR, Bool.and_eq_true, decide_eq_true_eq] at h
  exact h.1
theorem great7_ok (l : List Rx) (hok : ∀ r ∈ l, greatR 20 r = false → okR r) : PureF Tryz.prog A 5 [rxsD l] (.bool (great7 l)) := by
  refine evF_inB (n := 39) (rs := [.tmp 2]) Tryz.func5 rfl rfl rfl rfl rfl rfl ?_
  generalize hG : great7 l = G
  repeat' (first | refine wz1 ?_ | refine wz2 ?_ | refine wz3 ?_ | refine wz4 ?_ | refine wz5 ?_ | refine wz6 ?_ | simp -dsimp (maxSteps:=999999) (disch:=omega) only[go_sem,simprocAttr, *,rxsD] | ((first | refine wz8 (fun hh => ?_) (fun hh => ?_) | refine wz9 (fun hh => ?_) (fun hh => ?_) | refine wpB_cond (by simp -dsimp (maxSteps:=999999) (disch:=omega) only[go_sem,simprocAttr, *,rxsD]; exact rfl) (fun hh => ?_) (fun hh => ?_)) <;> (try replace hh := vqs hh) <;> (try (exfalso; first | exact hh | omega))))
  refine wpB_loop (fun e H => ∃ j : Nat, j ≤ l.length ∧ j ≤ 17 ∧ e 0 = rxsD l ∧ e 3 = .int .i64 (sum7 (l.take j)) ∧ e 4 = .int .i64 j ∧ sum7 (l.take j) ≤ 100 * j ∧ (l.take j).any (greatR 20) = false) (fun e H => 17 - natOf (e 4)) ?_ ?_
  · exact ⟨0, by omega, by omega, by simp -dsimp (maxSteps:=999999) (disch:=omega) only[go_sem,simprocAttr, *,rxsD], by rw [show sum7 (l.take 0) = 0 from rfl]; simp -dsimp (maxSteps:=999999) (disch:=omega) only[go_sem,simprocAttr, *], gs, by simp [sum7], by simp⟩
  rintro e H ⟨j, hj, hj2, e0, e3, e4, hs, hg⟩ R hR
  by_cases hb : j < l.length ∧ j < 17
  · obtain ⟨hb, hb2⟩ := hb
    have hx : (rxDs l)[j]? = some (rxD l[j]) := by rw [rxDs_at, List.getElem?_eq_getElem hb]; rfl
    have q1 := rx_cells l[j]
    have q2 := rx_aggQ l[j]
    have q3 := rx_noTup l[j]
    have hgr := great_ok 20 (by omega) l[j]
    have hst := strip2 (strip_rx l[j]) (strip_int (k := .i64) (n := 20))
    have hst1 := strip1 (strip_rx l[j])
    have htk : l.take (j + 1) = l.take j ++ [l[j]] := take_succ' hb
    have hok1 := hok l[j] (List.getElem_mem hb)
    have hG1 : greatR 20 l[j] = true → G = true := fun h => by
      rw [← hG, great7]
      have : (l.take 17).any (greatR 20) = true := List.any_eq_true.2 ⟨l[j], List.mem_of_getElem? (i := j) (by rw [List.getElem?_take_of_lt hb2, List.getElem?_eq_getElem hb]), h⟩
      rw [this]; rfl
    have hR1 := fun h => right_ok l[j] (hok1 h)
    have hN1 := fun h (h2 : rightR l[j] = true) => nodes_ok 12 l[j] (hok1 h) (right_nodes h2).1 (by omega)
    have hN2 := fun (h2 : rightR l[j] = true) => (right_nodes h2).2
    have hsum : sum7 (l.take (j + 1)) = sum7 (l.take j) + if rightR l[j] then nodesR l[j] else 0 := by rw [htk, sum7_app]
    have hany : greatR 20 l[j] = false → (l.take (j + 1)).any (greatR 20) = false := fun h => by rw [htk, List.any_append, hg]; simp [h]
    rw [show ((20 : Nat) : Int) = 20 from rfl] at hgr
    clear hok1 hok hg htk hG
    generalize hS : sum7 (l.take j) = s at *
    generalize hrx : l[j] = rx at *
    generalize hdk : rxD rx = dk at *
    repeat' (first | refine wz1 ?_ | refine wz2 ?_ | refine wz3 ?_ | refine wz4 ?_ | refine wz5 ?_ | refine wz6 ?_ | simp -dsimp (maxSteps:=999999) (disch:=omega) only[go_sem,simprocAttr, *,rxsD] | ((first | refine wz8 (fun hh => ?_) (fun hh => ?_) | refine wz9 (fun hh => ?_) (fun hh => ?_) | refine wpB_cond (by simp -dsimp (maxSteps:=999999) (disch:=omega) only[go_sem,simprocAttr, *,rxsD]; exact rfl) (fun hh => ?_) (fun hh => ?_)) <;> (try replace hh := vqs hh) <;> (try (exfalso; first | exact hh | omega))))
    refine evB_plain bo14 rfl rfl hst hgr ?_
    cases hq : greatR 20 rx with
    | true =>
      rw [hG1 hq]
      repeat' (first | refine wz1 ?_ | refine wz2 ?_ | refine wz3 ?_ | refine wz4 ?_ | refine wz5 ?_ | refine wz6 ?_ | simp -dsimp (maxSteps:=999999) (disch:=omega) only[go_sem,simprocAttr, *] | ((first | refine wz8 (fun hh => ?_) (fun hh => ?_) | refine wz9 (fun hh => ?_) (fun hh => ?_) | refine wz7 (fun hh => ?_) (fun hh => ?_)) <;> (try replace hh := vqs hh) <;> (try (exfalso; first | exact hh | omega))))
    | false =>
      replace hR1 := hR1 hq
      replace hN1 := hN1 hq
      replace hany := hany hq
      clear hG1
      repeat' (first | refine wz1 ?_ | refine wz2 ?_ | refine wz3 ?_ | refine wz4 ?_ | refine wz5 ?_ | refine wz6 ?_ | simp -dsimp (maxSteps:=999999) (disch:=omega) only[go_sem,simprocAttr, *,rxsD] | ((first | refine wz8 (fun hh => ?_) (fun hh => ?_) | refine wz9 (fun hh => ?_) (fun hh => ?_) | refine wpB_cond (by simp -dsimp (maxSteps:=999999) (disch:=omega) only[go_sem,simprocAttr, *,rxsD]; exact rfl) (fun hh => ?_) (fun hh => ?_)) <;> (try replace hh := vqs hh) <;> (try (exfalso; first | exact hh | omega))))
      refine evB_plain bo15 rfl rfl hst1 hR1 ?_
      cases hrt : rightR rx with
      | false =>
        rw [hrt] at hsum
        simp only [Bool.false_eq_true, if_false, Nat.add_zero] at hsum
        clear hN1 hN2
        repeat' (first | refine wz1 ?_ | refine wz2 ?_ | refine wz3 ?_ | refine wz4 ?_ | refine wz5 ?_ | refine wz6 ?_ | simp -dsimp (maxSteps:=999999) (disch:=omega) only[go_sem,simprocAttr, *] | ((first | refine wz8 (fun hh => ?_) (fun hh => ?_) | refine wz9 (fun hh => ?_) (fun hh => ?_) | refine wz7 (fun hh => ?_) (fun hh => ?_)) <;> (try replace hh := vqs hh) <;> (try (exfalso; first | exact hh | omega))))
        refine hR _ _ ⟨j + 1, by omega, by omega, by simp -dsimp (maxSteps:=999999) (disch:=omega) only[go_sem,simprocAttr, *,rxsD], by rw [hsum]; simp -dsimp (maxSteps:=999999) (disch:=omega) only[go_sem,simprocAttr, *], gs, by omega, hany⟩ ?_
        simp -dsimp (maxSteps:=999999) (disch:=omega) only[go_sem,simprocAttr, *,natOf_int]
      | true =>
        replace hN1 := hN1 hrt
        replace hN2 := hN2 hrt
        rw [hrt] at hsum
        simp only [if_true] at hsum
        repeat' (first | refine wz1 ?_ | refine wz2 ?_ | refine wz3 ?_ | refine wz4 ?_ | refine wz5 ?_ | refine wz6 ?_ | simp -dsimp (maxSteps:=999999) (disch:=omega) only[go_sem,simprocAttr, *,rxsD] | ((first | refine wz8 (fun hh => ?_) (fun hh => ?_) | refine wz9 (fun hh => ?_) (fun hh => ?_) | refine wpB_cond (by simp -dsimp (maxSteps:=999999) (disch:=omega) only[go_sem,simprocAttr, *,rxsD]; exact rfl) (fun hh => ?_) (fun hh => ?_)) <;> (try replace hh := vqs hh) <;> (try (exfalso; first | exact hh | omega))))
        refine evB_plain bo16 rfl rfl hst1 hN1 ?_
        repeat' (first | refine wz1 ?_ | refine wz2 ?_ | refine wz3 ?_ | refine wz4 ?_ | refine wz5 ?_ | refine wz6 ?_ | simp -dsimp (maxSteps:=999999) (disch:=omega) only[go_sem,simprocAttr, *] | ((first | refine wz8 (fun hh => ?_) (fun hh => ?_) | refine wz9 (fun hh => ?_) (fun hh => ?_) | refine wz7 (fun hh => ?_) (fun hh => ?_)) <;> (try replace hh := vqs hh) <;> (try (exfalso; first | exact hh | omega))))
        refine hR _ _ ⟨j + 1, by omega, by omega, by simp -dsimp (maxSteps:=999999) (disch:=omega) only[go_sem,simprocAttr, *,rxsD], by rw [hsum]; simp -dsimp (maxSteps:=999999) (disch:=omega) only[go_sem,simprocAttr, *], gs, by omega, hany⟩ ?_
        simp -dsimp (maxSteps:=999999) (disch:=omega) only[go_sem,simprocAttr, *,natOf_int]
  · have htk : l.take 17 = l.take j := by
      rcases Nat.lt_or_ge j 17 with h | h
      · rw [List.take_of_length_le (by omega), List.take_of_length_le (by omega)]
      · rw [show j = 17 by omega]
    have hz : G = (decide (20 < l.length) || decide (120 < sum7 (l.take j))) := by
      rw [← hG, great7, htk, hg]; rfl
    clear hG hg htk hok
    generalize sum7 (l.take j) = s at *
    by_cases h1 : 20 < l.length
    · have : G = true := by rw [hz]; simp; omega
      rw [this]
      clear hz
      repeat' (first | refine wz1 ?_ | refine wz2 ?_ | refine wz3 ?_ | refine wz4 ?_ | refine wz5 ?_ | refine wz6 ?_ | simp -dsimp (maxSteps:=999999) (disch:=omega) only[go_sem,simprocAttr, *,rxsD] | ((first | refine wz8 (fun hh => ?_) (fun hh => ?_) | refine wz9 (fun hh => ?_) (fun hh => ?_) | refine wpB_cond (by simp -dsimp (maxSteps:=999999) (disch:=omega) only[go_sem,simprocAttr, *,rxsD]; exact rfl) (fun hh => ?_) (fun hh => ?_)) <;> (try replace hh := vqs hh) <;> (try (exfalso; first | exact hh | omega))))
    · by_cases h2 : 120 < s
      · have : G = true := by rw [hz]; simp; omega
        rw [this]
        clear hz
        repeat' (first | refine wz1 ?_ | refine wz2 ?_ | refine wz3 ?_ | refine wz4 ?_ | refine wz5 ?_ | refine wz6 ?_ | simp -dsimp (maxSteps:=999999) (disch:=omega) only[go_sem,simprocAttr, *,rxsD] | ((first | refine wz8 (fun hh => ?_) (fun hh => ?_) | refine wz9 (fun hh => ?_) (fun hh => ?_) | refine wpB_cond (by simp -dsimp (maxSteps:=999999) (disch:=omega) only[go_sem,simprocAttr, *,rxsD]; exact rfl) (fun hh => ?_) (fun hh => ?_)) <;> (try replace hh := vqs hh) <;> (try (exfalso; first | exact hh | omega))))
      · have : G = false := by rw [hz]; simp; omega
        rw [this]
        clear hz
        repeat' (first | refine wz1 ?_ | refine wz2 ?_ | refine wz3 ?_ | refine wz4 ?_ | refine wz5 ?_ | refine wz6 ?_ | simp -dsimp (maxSteps:=999999) (disch:=omega) only[go_sem,simprocAttr, *,rxsD] | ((first | refine wz8 (fun hh => ?_) (fun hh => ?_) | refine wz9 (fun hh => ?_) (fun hh => ?_) | refine wpB_cond (by simp -dsimp (maxSteps:=999999) (disch:=omega) only[go_sem,simprocAttr, *,rxsD]; exact rfl) (fun hh => ?_) (fun hh => ?_)) <;> (try replace hh := vqs hh) <;> (try (exfalso; first | exact hh | omega))))
theorem great7_len {l : List Rx} (h : great7 l = false) : l.length ≤ 20 ∧ (l.length ≤ 16 → ∀ r ∈ l, greatR 20 r = false) := by
  simp only [great7, Bool.or_eq_false_iff, decide_eq_false_iff_not] at h
  refine ⟨by omega, fun hl r hr => ?_⟩
  have := h.1
  rw [List.take_of_length_le (by omega)] at this
  simpa using List.any_eq_false.1 this r hr
end Go.Proofs.W
end
/- The law on machines without free steps: the document's build is the code's. -/
section
set_option maxHeartbeats 4000000
set_option linter.unusedVariables false
set_option linter.unusedSimpArgs false
namespace Go.Proofs.W
open Go Vm Go.Proofs.Zs7z

theorem eqD_row {r : List Int} (h : r.length = 16) : eqD Tryz.prog 62 (rowD r) (rowD r) = some true := by
  match r, h with
  | [a, b, c, d, e, f, g, h, i, j, k, l, m, n, o, p], _ => (simp [rowD, eqD, un62, un3, sz3, eqSs, eqS]; exact ⟨rfl, rfl, rfl, rfl, rfl, rfl, rfl, rfl, rfl, rfl, rfl, rfl, rfl, rfl, rfl, rfl⟩)
theorem stripdd (d : Dfa) : stripL [dfaD d, dfaD d] = some [dfaD d, dfaD d] := strip2 (strip_dfa d) (strip_dfa d)
theorem dsame_ok (d : Dfa) (ty : tyM d) (h1 : d.next.length ≤ 1000) (h2 : d.rule.length ≤ 1000) : PureF Tryz.prog A 8 [dfaD d, dfaD d] (.bool true) := by
  have a1 := dfa_noTup d
  have a2 := dfa_cells d
  have a3 := dfa_aggQ d
  refine evF_inB (n := 59) (rs := [.tmp 4]) Tryz.func8 rfl rfl rfl rfl rfl rfl ?_
  repeat' (first | refine wz1 ?_ | refine wz2 ?_ | refine wz3 ?_ | refine wz4 ?_ | refine wz5 ?_ | refine wz6 ?_ | simp -dsimp (maxSteps:=999999) (disch:=omega) only[go_sem,simprocAttr, *] | ((first | refine wz8 (fun hh => ?_) (fun hh => ?_) | refine wz9 (fun hh => ?_) (fun hh => ?_) | refine wz7 (fun hh => ?_) (fun hh => ?_)) <;> (try replace hh := vqs hh) <;> (try (exfalso; first | exact hh | omega))))
  refine wpB_loop (fun e H => ∃ i : Nat, i ≤ d.next.length ∧ hget H 0 = .arr [dfaD d] ∧ hget H 1 = .arr [dfaD d] ∧ e 2 = .ptr 0 0 0 ∧ e 3 = .ptr 1 0 0 ∧ e 5 = .int .i64 i) (fun e H => d.next.length - natOf (e 5)) ?_ ?_
  · exact ⟨0, by omega, gs, gs, gs, gs, gs⟩
  rintro e H ⟨i, hi, g0, g1, e2, e3, e5⟩ R hR
  by_cases hb : i < d.next.length
  · obtain ⟨r, hr⟩ : ∃ r, d.next[i]? = some r := ⟨_, List.getElem?_eq_getElem hb⟩
    have hrm : (d.next.map rowD)[i]? = some (rowD r) := by simp [hr]
    have hq := eqD_row (ty r (List.mem_of_getElem? hr))
    have b1 := row_noTup r
    have b2 := row_cells r
    have hq2 : binD Tryz.prog .neq 62 (rowD r) (rowD r) = some (.bool false) := by
      rw [show binD Tryz.prog .neq 62 (rowD r) (rowD r) = (eqD Tryz.prog 62 (rowD r) (rowD r)).map fun b => .bool (!b) from rfl, hq]; rfl
    have hr16 := ty r (List.mem_of_getElem? hr)
    have b3 := row_aggQ r
    repeat' (first | refine wz1 ?_ | refine wz2 ?_ | refine wz3 ?_ | refine wz4 ?_ | refine wz5 ?_ | refine wz6 ?_ | simp -dsimp (maxSteps:=999999) (disch:=omega) only[go_sem,simprocAttr, *] | ((first | refine wz8 (fun hh => ?_) (fun hh => ?_) | refine wz9 (fun hh => ?_) (fun hh => ?_) | refine wz7 (fun hh => ?_) (fun hh => ?_)) <;> (try replace hh := vqs hh) <;> (try (exfalso; first | exact hh | omega))))
    refine wpB_regionXL (prs := []) (by kernel_rfl) rfl (by kernel_rfl) ?_; simp -dsimp (maxSteps:=999999) (disch:=omega) only[go_sem,simprocAttr, *]
    repeat' (first | refine wz1 ?_ | refine wz2 ?_ | refine wz3 ?_ | refine wz4 ?_ | refine wz5 ?_ | refine wz6 ?_ | simp -dsimp (maxSteps:=999999) (disch:=omega) only[go_sem,simprocAttr, *] | ((first | refine wz8 (fun hh => ?_) (fun hh => ?_) | refine wz9 (fun hh => ?_) (fun hh => ?_) | refine wz7 (fun hh => ?_) (fun hh => ?_)) <;> (try replace hh := vqs hh) <;> (try (exfalso; first | exact hh | omega))))
    refine hR _ _ ⟨i + 1, by omega, gs, gs, gs, gs, gs⟩ ?_
    simp -dsimp (maxSteps:=999999) (disch:=omega) only[go_sem,simprocAttr, *,natOf_int]
  · obtain rfl : i = d.next.length := by omega
    clear ty hb hi
    repeat' (first | refine wz1 ?_ | refine wz2 ?_ | refine wz3 ?_ | refine wz4 ?_ | refine wz5 ?_ | refine wz6 ?_ | simp -dsimp (maxSteps:=999999) (disch:=omega) only[go_sem,simprocAttr, *] | ((first | refine wz8 (fun hh => ?_) (fun hh => ?_) | refine wz9 (fun hh => ?_) (fun hh => ?_) | refine wz7 (fun hh => ?_) (fun hh => ?_)) <;> (try replace hh := vqs hh) <;> (try (exfalso; first | exact hh | omega))))
    refine wpB_loop (fun e H => ∃ j : Nat, j ≤ d.rule.length ∧ hget H 0 = .arr [dfaD d] ∧ hget H 1 = .arr [dfaD d] ∧ e 2 = .ptr 0 0 0 ∧ e 3 = .ptr 1 0 0 ∧ e 6 = .int .i64 j) (fun e H => d.rule.length - natOf (e 6)) ?_ ?_
    · exact ⟨0, by omega, gs, gs, gs, gs, gs⟩
    clear g0 g1 e2 e3 e5 hR
    rintro e H ⟨j, hj, g0, g1, e2, e3, e6⟩ R hR
    by_cases hb : j < d.rule.length
    · obtain ⟨r, hr⟩ : ∃ r, d.rule[j]? = some r := ⟨_, List.getElem?_eq_getElem hb⟩
      have hrm : (d.rule.map (D.int .i64))[j]? = some (.int .i64 r) := by simp [hr]
      repeat' (first | refine wz1 ?_ | refine wz2 ?_ | refine wz3 ?_ | refine wz4 ?_ | refine wz5 ?_ | refine wz6 ?_ | simp -dsimp (maxSteps:=999999) (disch:=omega) only[go_sem,simprocAttr, *] | ((first | refine wz8 (fun hh => ?_) (fun hh => ?_) | refine wz9 (fun hh => ?_) (fun hh => ?_) | refine wz7 (fun hh => ?_) (fun hh => ?_)) <;> (try replace hh := vqs hh) <;> (try (exfalso; first | exact hh | omega))))
      refine wpB_regionXL (prs := []) (by kernel_rfl) rfl (by kernel_rfl) ?_; simp -dsimp (maxSteps:=999999) (disch:=omega) only[go_sem,simprocAttr, *]
      repeat' (first | refine wz1 ?_ | refine wz2 ?_ | refine wz3 ?_ | refine wz4 ?_ | refine wz5 ?_ | refine wz6 ?_ | simp -dsimp (maxSteps:=999999) (disch:=omega) only[go_sem,simprocAttr, *] | ((first | refine wz8 (fun hh => ?_) (fun hh => ?_) | refine wz9 (fun hh => ?_) (fun hh => ?_) | refine wz7 (fun hh => ?_) (fun hh => ?_)) <;> (try replace hh := vqs hh) <;> (try (exfalso; first | exact hh | omega))))
      refine hR _ _ ⟨j + 1, by omega, gs, gs, gs, gs, gs⟩ ?_
      simp -dsimp (maxSteps:=999999) (disch:=omega) only[go_sem,simprocAttr, *,natOf_int]
    · repeat' (first | refine wz1 ?_ | refine wz2 ?_ | refine wz3 ?_ | refine wz4 ?_ | refine wz5 ?_ | refine wz6 ?_ | simp -dsimp (maxSteps:=999999) (disch:=omega) only[go_sem,simprocAttr, *] | ((first | refine wz8 (fun hh => ?_) (fun hh => ?_) | refine wz9 (fun hh => ?_) (fun hh => ?_) | refine wz7 (fun hh => ?_) (fun hh => ?_)) <;> (try replace hh := vqs hh) <;> (try (exfalso; first | exact hh | omega))))
theorem dbuild_ty {l : List Rx} : tyM (dbuild l).1 ∧ (dbuild l).1.next.length ≤ 200 ∧ (dbuild l).1.rule.length ≤ 200 := by
  unfold dbuild
  cases hb : buildN l with
  | none => exact ⟨fun r h => (by cases h), by simp, by simp⟩
  | some n =>
    simp only
    cases hq : runB n 202 0 [clos n [0]] [] with
    | none => exact ⟨fun r h => (by cases h), by simp, by simp⟩
    | some p =>
      obtain ⟨ls, nx⟩ := p
      obtain ⟨-, -, g3, -⟩ := build_right hb
      have hrr := right_row g3
      obtain ⟨k1, k2⟩ := runB_done _ _ _ _ _ _ (done_zero (clos_zero (by omega))) (by simp) hq
      exact ⟨mk_ty k1, by have := k1.len; simp only [mkDfa]; omega, by simp only [mkDfa, List.length_map]; omega⟩
theorem great7_take {l : List Rx} (h : great7 l = false) (i : Nat) (hi : i < l.length) (h16 : i < 16) : greatR 20 l[i] = false := by
  simp only [great7, Bool.or_eq_false_iff, decide_eq_false_iff_not] at h
  have hm : l[i] ∈ l.take 17 := List.mem_of_getElem? (i := i) (by rw [List.getElem?_take_of_lt (by omega), List.getElem?_eq_getElem hi])
  simpa using List.any_eq_false.1 h.1 l[i] hm
theorem zrD8 : zeroT Tryz.prog 28 = some (.agg [.sl true [], .sl true []]) := by kernel_rfl
theorem builds7_law (l : List Rx) (hok : ∀ r ∈ l, greatR 20 r = false → okR r) : Yes 3 [rxsD l] := by
  refine evF_inB (n := 29) (rs := [.tmp 2]) Tryz.func3 rfl rfl rfl rfl rfl rfl ?_
  repeat' (first | refine wz1 ?_ | refine wz2 ?_ | refine wz3 ?_ | refine wz4 ?_ | refine wz5 ?_ | refine wz6 ?_ | simp -dsimp (maxSteps:=999999) (disch:=omega) only[go_sem,simprocAttr, *] | ((first | refine wz8 (fun hh => ?_) (fun hh => ?_) | refine wz9 (fun hh => ?_) (fun hh => ?_) | refine wz7 (fun hh => ?_) (fun hh => ?_)) <;> (try replace hh := vqs hh) <;> (try (exfalso; first | exact hh | omega))))
  refine evB_plain bo4 rfl rfl rfl alive_ok ?_
  repeat' (first | refine wz1 ?_ | refine wz2 ?_ | refine wz3 ?_ | refine wz4 ?_ | refine wz5 ?_ | refine wz6 ?_ | simp -dsimp (maxSteps:=999999) (disch:=omega) only[go_sem,simprocAttr, *] | ((first | refine wz8 (fun hh => ?_) (fun hh => ?_) | refine wz9 (fun hh => ?_) (fun hh => ?_) | refine wz7 (fun hh => ?_) (fun hh => ?_)) <;> (try replace hh := vqs hh) <;> (try (exfalso; first | exact hh | omega))))
  refine evB_plain bo5 rfl rfl (strip_rxsD' l) (great7_ok l hok) ?_
  cases hg : great7 l with
  | true => repeat' (first | refine wz1 ?_ | refine wz2 ?_ | refine wz3 ?_ | refine wz4 ?_ | refine wz5 ?_ | refine wz6 ?_ | simp -dsimp (maxSteps:=999999) (disch:=omega) only[go_sem,simprocAttr, *] | ((first | refine wz8 (fun hh => ?_) (fun hh => ?_) | refine wz9 (fun hh => ?_) (fun hh => ?_) | refine wz7 (fun hh => ?_) (fun hh => ?_)) <;> (try replace hh := vqs hh) <;> (try (exfalso; first | exact hh | omega))))
  | false =>
    obtain ⟨h20, h16⟩ := great7_len hg
    have hB := dbuild_ok l (fun h r hr => hok r hr (h16 h r hr)) (by omega)
    have hB2 := rbuild_ok l (fun i h h' => hok _ (List.getElem_mem h) (great7_take hg i h h')) (by omega)
    have hs := dsame_ok (dbuild l).1 dbuild_ty.1 (by have := (dbuild_ty (l := l)).2.1; omega) (by have := (dbuild_ty (l := l)).2.2; omega)
    have hst := stripdd (dbuild l).1
    clear hok hg h16
    generalize dbuild l = x at *
    obtain ⟨d, e⟩ := x
    simp only at hs hst
    have a1 := dfa_noTup d
    have a2 := dfa_cells d
    have a3 := dfa_aggQ d
    repeat' (first | refine wz1 ?_ | refine wz2 ?_ | refine wz3 ?_ | refine wz4 ?_ | refine wz5 ?_ | refine wz6 ?_ | simp -dsimp (maxSteps:=999999) (disch:=omega) only[go_sem,simprocAttr, *] | ((first | refine wz8 (fun hh => ?_) (fun hh => ?_) | refine wz9 (fun hh => ?_) (fun hh => ?_) | refine wz7 (fun hh => ?_) (fun hh => ?_)) <;> (try replace hh := vqs hh) <;> (try (exfalso; first | exact hh | omega))))
    refine evB_plain bo6 rfl rfl (strip_rxsD' l) hB ?_
    repeat' (first | refine wz1 ?_ | refine wz2 ?_ | refine wz3 ?_ | refine wz4 ?_ | refine wz5 ?_ | refine wz6 ?_ | simp -dsimp (maxSteps:=999999) (disch:=omega) only[go_sem,simprocAttr, *,dbD, zrD8] | ((first | refine wz8 (fun hh => ?_) (fun hh => ?_) | refine wz9 (fun hh => ?_) (fun hh => ?_) | refine wpB_cond (by simp -dsimp (maxSteps:=999999) (disch:=omega) only[go_sem,simprocAttr, *,dbD, zrD8]; exact rfl) (fun hh => ?_) (fun hh => ?_)) <;> (try replace hh := vqs hh) <;> (try (exfalso; first | exact hh | omega))))
    refine evB_plain bo7 rfl rfl (strip_rxsD' l) hB2 ?_
    repeat' (first | refine wz1 ?_ | refine wz2 ?_ | refine wz3 ?_ | refine wz4 ?_ | refine wz5 ?_ | refine wz6 ?_ | simp -dsimp (maxSteps:=999999) (disch:=omega) only[go_sem,simprocAttr, *,dbD, zrD8] | ((first | refine wz8 (fun hh => ?_) (fun hh => ?_) | refine wz9 (fun hh => ?_) (fun hh => ?_) | refine wpB_cond (by simp -dsimp (maxSteps:=999999) (disch:=omega) only[go_sem,simprocAttr, *,dbD, zrD8]; exact rfl) (fun hh => ?_) (fun hh => ?_)) <;> (try replace hh := vqs hh) <;> (try (exfalso; first | exact hh | omega))))
    refine evB_plain bo8 rfl rfl hst hs ?_
    repeat' (first | refine wz1 ?_ | refine wz2 ?_ | refine wz3 ?_ | refine wz4 ?_ | refine wz5 ?_ | refine wz6 ?_ | simp -dsimp (maxSteps:=999999) (disch:=omega) only[go_sem,simprocAttr, *] | ((first | refine wz8 (fun hh => ?_) (fun hh => ?_) | refine wz9 (fun hh => ?_) (fun hh => ?_) | refine wz7 (fun hh => ?_) (fun hh => ?_)) <;> (try replace hh := vqs hh) <;> (try (exfalso; first | exact hh | omega))))
end Go.Proofs.W
end
/- From a law's runs to the row that lists variables. -/
section
set_option linter.unusedVariables false
namespace Vm
open Go
section
variable {P : Program}
theorem typedF_cons {t : TypeId} {ts : List TypeId} {ds : List D} (h : TypedF P (t :: ts) ds) : ∃ a b, ds = a ++ b ∧ Typed P t a ∧ TypedF P ts b := by
  cases h with
  | cons _ _ a b h hr => exact ⟨a, b, rfl, h, hr⟩
/-- as 'typedE_agg', for what lies within: each element is less than the list -/
theorem typedE_aggI {e : TypeId} {xs : List D} (ha : aggT P e = true) (h : TypedE P e xs) {α : Type} (f : α → D) (q : α → Prop) (hf : ∀ cs, SizeOf.sizeOf cs < SizeOf.sizeOf xs → Typed P e cs → ∃ a, D.agg cs = f a ∧ q a) : ∃ l : List α, xs = l.map f ∧ ∀ a ∈ l, q a := by
  induction xs with
  | nil => exact ⟨[], rfl, by simp⟩
  | cons x xs ih =>
    cases h with
    | agg _ cs _ ha' h hr =>
      obtain ⟨l, hl, hq⟩ := ih hr (fun cs hc => hf cs (by simp only [List.cons.sizeOf_spec]; omega))
      obtain ⟨a, hb, hqa⟩ := hf cs (by simp only [List.cons.sizeOf_spec, D.agg.sizeOf_spec]; omega) h
      refine ⟨a :: l, by rw [List.map_cons, ← hl, hb], fun y hy => ?_⟩
      rcases List.mem_cons.1 hy with rfl | hy
      · exact hqa
      · exact hq y hy
    | one _ _ _ ha' h hr => rw [ha] at ha'; cases ha'
theorem typedA_slice {t e : TypeId} {ts : List TypeId} {ds : List D} (hu : P.underlying t = some (.slice e)) (ha : aggT P t = false) (h : TypedA P (t :: ts) ds) : ∃ xs r, ds = .sl false xs :: r ∧ xs.length ≤ maxLen ∧ TypedE P e xs ∧ TypedA P ts r := by
  obtain ⟨d, r, rfl, h1, h2⟩ := typedA_one ha h
  obtain ⟨s, hs, hl, hx⟩ := typed_slice hu h1
  cases hs
  exact ⟨s, r, rfl, hl, hx, h2⟩
end

/-- the row's contract, where it lists variables and a function reads one of the library's own -/
theorem law_lifted {C : Checked} {os : Os} {f : FuncId} {fn : Func} {s : ChangeSpec} {H : Type} {enc : TypeId × Value → H} {conds : List PathCond} {laid : List (String × DataW Unit)} {A : Ann} {S : List TypeId} {tb : TypeId}
    (started : os.Started) (own : ownKnob C.prog.godebug = none) (noInit : C.prog.inits.idxOf? f = none) (hfn : C.prog.funcs[f]? = some fn)
    (witness : ∃ (w : World) (tape : Tape) (i : Input), w.os = os ∧ (w.forCall tape i).Shaped C.prog ∧ i.vars = [] ∧ Input.okWide C.prog (w.forCall tape i) .any w.heap.size f i ∧
      ((s.pre enc C.prog fn conds false (w.forCall tape i).memory i.args ∧ laidMetH C.prog laid (w.forCall tape i).memory) ∧ sizedMet enc C.prog fn (OpenSpec.ofChange s) false (w.forCall tape i).memory i.args) ∧ ({} : Assume).holds C.prog (lone (Frame.enter C.prog f i.args .normal) [] (w.forCall tape i)))
    (hvars : s.vars = []) (hl : laidOutB C.prog = true)
    (hts : (fn.params.toList.all fun t => C.prog.readableRec t && decide (t < C.prog.types.size)) = true) (hS : plainS C.prog S = true) (hpl : (fn.params.toList.all fun t => S.contains t) = true)
    (hbod : bodied C.prog f = true) (hres : fn.resultTypes = #[tb]) (htb : C.prog.underlying tb = some .bool)
    (hs : ∀ ds : List (DataW H), ds.length = fn.params.size → (s.fn H ds).results = [.lit (.bool true)] ∧ (s.fn H ds).args = ds ∧ (s.fn H ds).vars = [])
    (hprim : ∀ W : World, W.ShapedOpen C.prog → @PrimOk ⟨im0 W⟩ C.prog A)
    (hrun : ∀ Ds, TypedA C.prog fn.params.toList Ds → ∃ k H', runF C.prog A k f Ds [] = some (.ok (.bool true) H')) :
    ReturnsInHanded {} C os f .any (fun w args => (s.pre enc C.prog fn conds false w args ∧ laidMetH C.prog laid w) ∧ sizedMet enc C.prog fn (OpenSpec.ofChange s) false w args) (s.post enc C.prog fn false true false false) := by
  refine returnsInHanded_of_calls own started noInit witness ?_
  intro w tape i _ hsh _ hok hpre hholds
  obtain ⟨_, _, _, fn', hfn', _, _, _, _, hval⟩ := hok
  have e : fn' = fn := Option.some.inj (hfn'.symm.trans hfn)
  subst e
  obtain ⟨⟨⟨ds, gs, before, hw, hc⟩, hx⟩, hz⟩ := hpre
  have hw' := DataW.Whole.of_heap (w' := w.forCall tape i) (by rfl) hw
  have hts' : ∀ t ∈ fn'.params.toList, C.prog.readableRec t = true ∧ t < C.prog.types.size := fun t ht => by
    have h2 : C.prog.readableRec t = true ∧ decide (t < C.prog.types.size) = true := by simpa only [Bool.and_eq_true] using List.all_eq_true.1 hts t ht
    exact ⟨h2.1, of_decide_eq_true h2.2⟩
  refine (law_contract hvars hl hts' hS hpl hbod hres htb hs hrun (w.forCall tape i) w.heap.size i.args ds gs before hval hw' (hprim _ hsh)).mono fun e W' ⟨v, he, hp⟩ => ?_
  subst he
  exact ChangeSpec.post_blind hp
end Vm
end
/- Typed expressions. -/
section
set_option maxHeartbeats 4000000
set_option linter.unusedVariables false
set_option linter.unusedSimpArgs false
namespace Go.Proofs.W
open Go Vm Go.Proofs.Zs7z

theorem wf_u16' {n : Int} (h : (Lit.int .u16 n).wf = true) : 0 ≤ n ∧ n < 65536 := by simp [Lit.wf, IntKind.min, IntKind.max, IntKind.signed, IntKind.bits] at h; omega
theorem ftRx : fieldTs Tryz.prog 40 = some [5, 38, 22] := by kernel_rfl
theorem aggRx : aggT Tryz.prog 40 = true := by kernel_rfl
mutual
def tyR : Rx → Prop
  | .mk k s l => 0 ≤ k ∧ k < 256 ∧ 0 ≤ s ∧ s < 65536 ∧ tyL l
def tyL : List Rx → Prop
  | [] => True
  | r :: l => tyR r ∧ tyL l
end
theorem tyL_of : ∀ {l : List Rx}, (∀ r ∈ l, tyR r) → tyL l
  | [], _ => trivial
  | r :: l, h => ⟨h r (by simp), tyL_of fun x hx => h x (by simp [hx])⟩
theorem tyL_get : ∀ {l : List Rx}, tyL l → ∀ r ∈ l, tyR r
  | r :: l, h, x, hx => by
    rcases List.mem_cons.1 hx with rfl | hx
    · exact h.1
    · exact tyL_get h.2 x hx
theorem okL_of : ∀ {l : List Rx}, (∀ r ∈ l, okR r) → okL l
  | [], _ => trivial
  | r :: l, h => ⟨h r (by simp), okL_of fun x hx => h x (by simp [hx])⟩
theorem ok_of_great : ∀ (m : Nat) (r : Rx), tyR r → greatR m r = false → okR r := by
  intro m
  induction m with
  | zero => rintro ⟨k, s, l⟩ _ h; simp [greatR] at h
  | succ m ih =>
    rintro ⟨k, s, l⟩ ⟨h1, h2, h3, h4, h5⟩ h
    simp only [greatR, Bool.or_eq_false_iff, decide_eq_false_iff_not] at h
    exact ⟨h1, h2, h3, h4, by omega, okL_of fun r hr => ih r (tyL_get h5 r hr) (by simpa using List.any_eq_false.1 h.2 r hr)⟩
theorem wf_u8 {n : Int} (h : (Lit.int .u8 n).wf = true) : 0 ≤ n ∧ n < 256 := by simp [Lit.wf, IntKind.min, IntKind.max, IntKind.signed, IntKind.bits] at h; omega
theorem rx_of_typed : ∀ (n : Nat) (cs : List D), SizeOf.sizeOf cs < n → Typed Tryz.prog 40 cs → ∃ r : Rx, D.agg cs = rxD r ∧ tyR r := by
  intro n
  induction n with
  | zero => intro cs h; omega
  | succ n ih =>
    intro cs hn h
    have hf0 := typed_fields ftRx h
    obtain ⟨a, b, rfl, ha, hf1⟩ := typedF_cons hf0
    obtain ⟨k, rfl, hk⟩ := typed_int un5 ha
    obtain ⟨a, b2, rfl, ha, hf2⟩ := typedF_cons hf1
    obtain ⟨s, rfl, hs⟩ := typed_int un38 ha
    obtain ⟨a, b, rfl, ha, hf3⟩ := typedF_cons hf2
    obtain ⟨xs, rfl, hl, hx⟩ := typed_slice un22 ha
    cases typedF_nil hf3
    simp only [List.cons_append, List.nil_append, List.append_nil, List.cons.sizeOf_spec, D.sl.sizeOf_spec] at hn
    obtain ⟨l, rfl, hq⟩ := typedE_aggI aggRx hx rxD tyR fun cs hc ht => ih cs (by omega) ht
    refine ⟨.mk k s l, by rw [rx_mk, rxDs_map]; rfl, (wf_u8 hk).1, (wf_u8 hk).2, (wf_u16' hs).1, (wf_u16' hs).2, tyL_of hq⟩
theorem rxs_of_typed {xs : List D} (h : TypedE Tryz.prog 40 xs) : ∃ l : List Rx, xs = rxDs l ∧ ∀ r ∈ l, tyR r := by
  obtain ⟨l, rfl, hq⟩ := typedE_aggI aggRx h rxD tyR fun cs _ hc => rx_of_typed _ cs (Nat.lt_succ_self _) hc
  exact ⟨l, (rxDs_map l).symm, hq⟩
end Go.Proofs.W
end
