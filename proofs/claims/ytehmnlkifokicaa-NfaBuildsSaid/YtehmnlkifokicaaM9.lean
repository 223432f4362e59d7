/- Texts that stand behind this claim, one after the other. -/
import Derived.Test.YtehmnlkifokicaaM6
import Derived.Test.YtehmnlkifokicaaM8
import Derived.HandedShaped
import Derived.LaidLaws
import Derived.Test.YtehmnlkifokicaaM7
/- The document's machine of expressions is the program's: the whole. -/
section
set_option maxHeartbeats 4000000
set_option linter.unusedVariables false
set_option linter.unusedSimpArgs false
namespace Go.Proofs.W
open Go Vm Go.Proofs.Zsb6

/-- what has no set leads nowhere -/
def Tz (n : Nfa) : Prop := ∀ s, n.set.getD s 0 = 0 → n.to.getD s 0 = 0
def Rise (n : Nfa) : Prop := ∀ i, (n.free.getD i []).Pairwise (· < ·)
theorem Tz.setAt {n : Nfa} (h : Tz n) (i : Nat) (s : Int) (o : Int) (hs : 0 < s) (hl : n.to.length = n.set.length) : Tz { n with set := n.set.set i s, to := n.to.set i o } := fun j hj => by
  simp only [getD_set] at hj ⊢
  by_cases e : i = j ∧ i < n.set.length
  · rw [if_pos e] at hj; omega
  · rw [if_neg e] at hj
    rw [if_neg (by rw [hl]; exact e)]
    exact h j hj
theorem Tz.addState {n : Nfa} (h : Tz n) (hl : n.to.length = n.set.length) : Tz (addState n) := fun j hj => by
  simp only [W.addState, getD_push] at hj ⊢
  by_cases e : j = n.set.length
  · rw [if_pos (by omega)]
  · rw [if_neg e] at hj
    rw [if_neg (by omega)]
    exact h j hj
theorem catW_tz (o : Nat) : ∀ (ps : List (Nat × Nat)) (n : Nfa) (last : Nat), Tz n → Tz (catW o n last ps)
  | [], n, last, h => h
  | p :: r, n, last, h => catW_tz o r _ p.2 (show Tz (addFree n last p.1) from h)
theorem altW_tz (i o : Nat) : ∀ (ps : List (Nat × Nat)) (n : Nfa), Tz n → Tz (altW i o n ps)
  | [], n, h => h
  | p :: r, n, h => altW_tz i o r _ (show Tz (addFree (addFree n i p.1) p.2 o) from h)
theorem wire_tz {n : Nfa} (h : Tz n) (hl : n.to.length = n.set.length) (k s : Int) (hs : k = 1 → 0 < s) (i o : Nat) (ps : List (Nat × Nat)) : Tz (wire k s i o ps n) := by
  unfold wire
  split
  · exact h
  split
  · rename_i hk; exact h.setAt i s o (hs hk) hl
  split
  · exact catW_tz o ps n i h
  split
  · exact altW_tz i o ps n h
  split
  · exact h
  · split
    · exact h
    split
    · exact h
    · exact h
theorem shape1_pos {s : Int} {m : Nat} (h : shape1 1 s m = true) : 0 < s := by
  simp only [shape1, if_neg (show ¬ (1 : Int) = 0 by omega), if_true, Bool.and_eq_true, decide_eq_true_eq] at h
  exact h.2
mutual
theorem makeN_tz : ∀ (r : Rx) (n : Nfa), OkM n → shapesR r = true → Tz n → Tz (makeN r n).1
  | .mk k s l, n, hn, hs, h => by
    simp only [shapesR, Bool.and_eq_true] at hs
    have h1 := kidsN_tz l (addState n) hn.addState hs.2 (h.addState hn.lT)
    have hn2 := OkM.kidsN l (addState n) hn.addState
    simp only [makeN]
    exact wire_tz (h1.addState hn2.lT) hn2.addState.lT k s (fun hk => by subst hk; exact shape1_pos hs.1) _ _ _
theorem kidsN_tz : ∀ (l : List Rx) (n : Nfa), OkM n → shapesL l = true → Tz n → Tz (kidsN l n).1
  | [], n, _, _, h => h
  | r :: l, n, hn, hs, h => by
    simp only [shapesL, Bool.and_eq_true] at hs
    exact kidsN_tz l _ (OkM.makeN r n hn) hs.2 (makeN_tz r n hn hs.1 h)
end
theorem buildFrom_tz : ∀ (l : List Rx) (i : Nat) (n n' : Nfa), OkM n → Tz n → 1 ≤ kN n → i + l.length ≤ 16 → buildFrom i l n = some n' → Tz n'
  | [], i, n, n', h, ht, _, _, hb => by
    have : n = n' := by simpa [buildFrom] using hb
    subst this; exact ht
  | r :: l, i, n, n', h, ht, hk, hi, hb => by
    rw [buildFrom] at hb
    split at hb
    · rename_i hr
      simp only [List.length_cons] at hi
      have hsh := (sizes (l := [r]) (by simpa using hr) r (by simp)).2
      have e3 := makeN_io r n
      have hk1 := makeN_k r n
      have hp := sizeR_pos r
      have h1 := OkM.makeN r n h
      have h2 := h1.addFree 0 (W.makeN r n).2.1 (by rw [e3]; show 0 ≤ ((kN n : Nat) : Int) ∧ ((kN n : Nat) : Int) < _; omega)
      have h3 := h2.setRule (W.makeN r n).2.2 i ⟨by omega, by omega⟩
      exact buildFrom_tz l (i + 1) _ n' h3 (show Tz (setRule (addFree (W.makeN r n).1 0 (W.makeN r n).2.1) (W.makeN r n).2.2 i) from makeN_tz r n h hsh ht) (by show 1 ≤ kN (W.makeN r n).1; omega) (by omega) hb
    · cases hb
theorem buildFrom_some : ∀ (l : List Rx) (i : Nat) (n : Nfa), l.all rightR = true → ∃ n', buildFrom i l n = some n'
  | [], i, n, _ => ⟨n, rfl⟩
  | r :: l, i, n, h => by
    simp only [List.all_cons, Bool.and_eq_true] at h
    rw [buildFrom, if_pos h.1]
    exact buildFrom_some l _ _ h.2
theorem addI_rise {n : Nfa} (h : Rise n) (i x : Nat) : Rise (addI n i x) := fun j => by
  simp only [addI, getD_set]
  split
  · exact into_rise (h i)
  · exact h j
theorem kidW_rise {n : Nfa} (h : Rise n) (k : Int) (a en next kid last : Nat) : Rise (kidW k a en next kid last n).1 := by
  unfold kidW
  split
  · exact addI_rise h _ _
  · split
    · exact addI_rise (addI_rise (addI_rise h _ _) _ _) _ _
    · exact addI_rise (addI_rise h _ _) _ _
theorem kidW_tz {n : Nfa} (h : Tz n) (k : Int) (a en next kid last : Nat) : Tz (kidW k a en next kid last n).1 := by
  unfold kidW
  split
  · exact h
  · split
    · exact h
    · exact h
mutual
theorem layN_inv : ∀ (r : Rx) (a : Nat) (n : Nfa), shapesR r = true → n.to.length = n.set.length → Tz n → Rise n → Tz (layN r a n) ∧ Rise (layN r a n)
  | .mk k s l, a, n, hs, hl, ht, hr => by
    simp only [shapesR, Bool.and_eq_true] at hs
    rw [layN]
    split
    · rename_i hk
      exact ⟨ht.setAt a s _ (by rw [hk] at hs; exact shape1_pos hs.1) hl, hr⟩
    · have h2 : Tz (if k ≠ 2 ∧ k ≠ 3 then addI n a (a + 2 * sizeL l + 1) else n) ∧ Rise (if k ≠ 2 ∧ k ≠ 3 then addI n a (a + 2 * sizeL l + 1) else n) ∧ (if k ≠ 2 ∧ k ≠ 3 then addI n a (a + 2 * sizeL l + 1) else n).to.length = (if k ≠ 2 ∧ k ≠ 3 then addI n a (a + 2 * sizeL l + 1) else n).set.length := by
        split
        · exact ⟨ht, addI_rise hr _ _, hl⟩
        · exact ⟨ht, hr, hl⟩
      have h1 := layL_inv k a (a + 2 * sizeL l + 1) l (a + 1) a _ hs.2 h2.2.2 h2.1 h2.2.1
      generalize (if k ≠ 2 ∧ k ≠ 3 then addI n a (a + 2 * sizeL l + 1) else n) = n0 at h1 h2 ⊢
      split
      · exact ⟨h1.1, addI_rise h1.2 _ _⟩
      · exact h1
theorem layL_inv (k : Int) (a en : Nat) : ∀ (l : List Rx) (next last : Nat) (n : Nfa), shapesL l = true → n.to.length = n.set.length → Tz n → Rise n → Tz (layL k a en l next last n).1 ∧ Rise (layL k a en l next last n).1
  | [], _, _, n, _, _, ht, hr => ⟨ht, hr⟩
  | r :: l, next, last, n, hs, hl, ht, hr => by
    simp only [shapesL, Bool.and_eq_true] at hs
    simp only [layL]
    obtain ⟨g1, g2⟩ := layN_inv r next n hs.1 hl ht hr
    have e1 := (layN_fl r next n).2.1
    have e2 := layN_k r next n
    have e3 := kidW_k k a en next (next + 2 * sizeR r - 1) last (layN r next n)
    have e4 : (kidW k a en next (next + 2 * sizeR r - 1) last (layN r next n)).1.to.length = (layN r next n).to.length := by
      unfold kidW
      split
      · rfl
      · split <;> rfl
    exact layL_inv k a en l _ _ _ hs.2 (by simp only [kN] at e2 e3; omega) (kidW_tz g1 _ _ _ _ _ _) (kidW_rise g2 _ _ _ _ _ _)
end
theorem starts_rng : ∀ (l : List Rx) (a : Nat), ∀ s ∈ starts l a, a ≤ s ∧ s < a + 2 * sizeL l
  | [], a, s, h => by cases h
  | r :: l, a, s, h => by
    have hp := sizeR_pos r
    simp only [starts, List.mem_cons] at h
    simp only [sizeL]
    rcases h with rfl | h
    · omega
    · have := starts_rng l _ s h; omega
structure PreR (n : Nfa) (l : List Rx) (K : Nat) : Prop where
  k : kN n = K
  lF : n.free.length = K
  lT : n.to.length = K
  lR : n.rule.length = K
  s0 : FreeOnly n 0 (starts l 1)
  fr : FragR n l 1
  fs : Fresh n (1 + 2 * sizeL l) K
  ru : ∀ (s i : Nat), n.rule.getD s (-1) = (i : Int) ↔ (endsP l 1)[i]? = some s
  rm : ∀ s, -1 ≤ n.rule.getD s (-1)
  tz : Tz n
  rise : Rise n
theorem getD_rep {α : Type} {K i : Nat} {x d : α} : (List.replicate K x).getD i d = if i < K then x else d := by
  rw [List.getD_eq_getElem?_getD, List.getElem?_replicate]
  split <;> rfl
theorem preR_zero (K : Nat) : PreR (zeroN K) [] K := by
  refine ⟨by simp [kN, zeroN], by simp [zeroN], by simp [zeroN], by simp [zeroN], ⟨?_, ?_⟩, trivial, fun s _ _ => ⟨?_, ?_⟩, fun s i => ?_, fun s => ?_, fun s _ => ?_, fun s => ?_⟩
  · simp only [zeroN, getD_rep]; split <;> rfl
  · simp only [zeroN, getD_rep]; split <;> rfl
  · simp only [zeroN, getD_rep]; split <;> rfl
  · simp only [zeroN, getD_rep]; split <;> rfl
  · simp only [zeroN, getD_rep, endsP]
    constructor
    · intro h; split at h <;> omega
    · intro h; simp at h
  · simp only [zeroN, getD_rep]; split <;> omega
  · simp only [zeroN, getD_rep]; split <;> rfl
  · simp only [zeroN, getD_rep]; split <;> exact .nil
theorem preR_step {n : Nfa} {l : List Rx} {K : Nat} (h : PreR n l K) (r : Rx) (hs : shapesR r = true) (hK : 1 + 2 * sizeL l + 2 * sizeR r ≤ K) :
    PreR (setRule (addI (layN r (1 + 2 * sizeL l) n) 0 (1 + 2 * sizeL l)) (1 + 2 * sizeL l + 2 * sizeR r - 1) (l.length : Int)) (l ++ [r]) K := by
  have hkk := h.k
  obtain ⟨m1, m2, m3⟩ := lay_frag r hs (1 + 2 * sizeL l) n (by rw [h.lF, h.k]) (by rw [h.lT, h.k]) (by omega) (h.fs.sub (Nat.le_refl _) (by omega))
  obtain ⟨e1, e2, e3⟩ := layN_fl r (1 + 2 * sizeL l) n
  have ek := layN_k r (1 + 2 * sizeL l) n
  obtain ⟨t1, t2⟩ := layN_inv r (1 + 2 * sizeL l) n hs (by rw [h.lT]; have := h.k; simp only [kN] at this; omega) h.tz h.rise
  have hp := sizeR_pos r
  have hsz := sizeL_app [r] l
  simp only [sizeL, Nat.add_zero] at hsz
  have hend : 1 + 2 * sizeL l + 2 * sizeR r - 1 = endOf r (1 + 2 * sizeL l) := rfl
  rw [hend]
  have hsame : ∀ s, s ≠ 0 → SameS (layN r (1 + 2 * sizeL l) n) (setRule (addI (layN r (1 + 2 * sizeL l) n) 0 (1 + 2 * sizeL l)) (endOf r (1 + 2 * sizeL l)) (l.length : Int)) s := fun s hs => (addI_same hs).trans ⟨rfl, rfl, rfl⟩
  refine ⟨by show kN (layN r (1 + 2 * sizeL l) n) = _; omega, by show (addI (layN r (1 + 2 * sizeL l) n) 0 (1 + 2 * sizeL l)).free.length = _; rw [addI_len, e1, h.lF], by show (layN r (1 + 2 * sizeL l) n).to.length = _; rw [e2, h.lT], by simp only [setRule, addI, e3, List.length_set, h.lR], ?_, ?_, ?_, fun s i => ?_, fun s => ?_, t1, addI_rise t2 _ _⟩
  · have := addI_only (t := 1 + 2 * sizeL l) (by rw [e1, h.lF]; omega) ((m3 0 (by omega)).only h.s0) (fun y hy => (starts_rng l 1 y hy).2)
    rw [starts_app]
    exact ⟨this.1, this.2⟩
  · refine fragR_app r l 1 (fragR_keep l 1 (fun s h1 h2 => (m3 s (by omega)).trans (hsame s (by omega))) h.fr) ?_ ?_
    · exact frag_keep r _ (fun s h1 h2 => hsame s (by omega)) m1
    · exact (hsame _ (by simp only [endOf]; omega)).only m2
  · rw [hsz]
    exact (h.fs.sub (by omega) (Nat.le_refl _)).same fun s h1 h2 => (m3 s (by omega)).trans (hsame s (by omega))
  · simp only [setRule, addI, e3, getD_set]
    rw [h.lR, endsP_app]
    by_cases hq : endOf r (1 + 2 * sizeL l) = s
    · rw [if_pos ⟨hq, by simp only [endOf]; omega⟩]
      constructor
      · intro e
        have : l.length = i := by omega
        subst this
        rw [List.getElem?_append_right (by rw [endsP_len]; omega), endsP_len, hq]; simp
      · intro e
        rcases Nat.lt_or_ge i l.length with h' | h'
        · rw [List.getElem?_append_left (by rw [endsP_len]; omega)] at e
          have := endsP_rng l 1 s (List.mem_of_getElem? e)
          simp only [endOf] at hq; omega
        · rw [List.getElem?_append_right (by rw [endsP_len]; omega), endsP_len] at e
          cases hx : i - l.length with
          | zero => omega
          | succ m => rw [hx] at e; simp at e
    · rw [if_neg (fun e => hq e.1), h.ru]
      rcases Nat.lt_or_ge i l.length with h' | h'
      · rw [List.getElem?_append_left (by rw [endsP_len]; omega)]
      · rw [List.getElem?_append_right (by rw [endsP_len]; omega), endsP_len, List.getElem?_eq_none (by rw [endsP_len]; omega)]
        cases hx : i - l.length with
        | zero => simpa using hq
        | succ m => simp
  · simp only [setRule, addI, e3, getD_set]
    split
    · omega
    · exact h.rm s
theorem refFrom_pre : ∀ (l done : List Rx) (n : Nfa) (K : Nat), PreR n done K → shapesL l = true → 1 + 2 * sizeL done + 2 * sizeL l ≤ K → PreR (refFrom l done.length (1 + 2 * sizeL done) n) (done ++ l) K
  | [], done, n, K, h, _, _ => by simpa [refFrom] using h
  | r :: l, done, n, K, h, hs, hK => by
    simp only [shapesL, Bool.and_eq_true] at hs
    simp only [sizeL] at hK
    have hsz := sizeL_app [r] done
    simp only [sizeL, Nat.add_zero] at hsz
    have := refFrom_pre l (done ++ [r]) _ K (preR_step h r hs.1 (by omega)) hs.2 (by omega)
    rw [refFrom]
    have e1 : (done ++ [r]).length = done.length + 1 := by simp
    have e2 : 1 + 2 * sizeL (done ++ [r]) = 1 + 2 * sizeL done + 2 * sizeR r := by omega
    rw [e1, e2] at this
    simpa using this
/-- a state is alike in two machines -/
def Like (n m : Nfa) (s : Nat) : Prop := m.set.getD s 0 = n.set.getD s 0 ∧ m.free.getD s [] = n.free.getD s [] ∧ (n.set.getD s 0 ≠ 0 → m.to.getD s 0 = n.to.getD s 0)
theorem like_only {n m : Nfa} {s : Nat} {l : List Nat} (h : FreeOnly n s l) (g : FreeOnly m s l) : Like n m s := ⟨g.1.trans h.1.symm, g.2.trans h.2.symm, fun e => absurd h.1 e⟩
mutual
theorem frag_like {n m : Nfa} : ∀ (r : Rx) (a : Nat), Frag n r a → Frag m r a → ∀ s, a ≤ s → s < endOf r a → Like n m s
  | .mk k s0 l, a, h, g, s, h1, h2 => by
    rw [endOf_mk] at h2
    obtain ⟨p1, p2⟩ := h
    obtain ⟨q1, q2⟩ := g
    by_cases e : s = a
    · subst e
      by_cases hk : k = 1
      · rw [if_pos hk] at p1 q1
        exact ⟨q1.1.trans p1.1.symm, q1.2.2.trans p1.2.2.symm, fun _ => q1.2.1.trans p1.2.1.symm⟩
      · rw [if_neg hk] at p1 q1
        exact like_only p1 q1
    · exact fragL_like k (a + 1) _ l (a + 1) p2 q2 s (by omega) (by omega)
theorem fragL_like {n m : Nfa} (k : Int) (a0 b : Nat) : ∀ (l : List Rx) (a : Nat), FragL n k a0 b l a → FragL m k a0 b l a → ∀ s, a ≤ s → s < a + 2 * sizeL l → Like n m s
  | [], a, _, _, s, h1, h2 => by simp [sizeL] at h2; omega
  | r :: l, a, h, g, s, h1, h2 => by
    obtain ⟨p1, p2, p3⟩ := h
    obtain ⟨q1, q2, q3⟩ := g
    have hp := sizeR_pos r
    simp only [sizeL] at h2
    by_cases e : s < endOf r a
    · exact frag_like r a p1 q1 s h1 e
    · by_cases e2 : s = endOf r a
      · subst e2; exact like_only p2 q2
      · exact fragL_like k a0 b l _ p3 q3 s (by simp only [endOf] at e e2; omega) (by omega)
end
theorem fragR_like {n m : Nfa} : ∀ (l : List Rx) (a : Nat), FragR n l a → FragR m l a → ∀ s, a ≤ s → s < a + 2 * sizeL l → Like n m s
  | [], a, _, _, s, h1, h2 => by simp [sizeL] at h2; omega
  | r :: l, a, h, g, s, h1, h2 => by
    obtain ⟨p1, p2, p3⟩ := h
    obtain ⟨q1, q2, q3⟩ := g
    have hp := sizeR_pos r
    simp only [sizeL] at h2
    by_cases e : s < endOf r a
    · exact frag_like r a p1 q1 s h1 e
    · by_cases e2 : s = endOf r a
      · subst e2; exact like_only p2 q2
      · exact fragR_like l _ p3 q3 s (by simp only [endOf] at e e2; omega) (by omega)
theorem ext_getD {α : Type} {a b : List α} {d : α} (hl : a.length = b.length) (h : ∀ i, i < a.length → a.getD i d = b.getD i d) : a = b := by
  refine List.ext_getElem hl fun i h1 h2 => ?_
  have := h i h1
  rwa [List.getD_eq_getElem?_getD, List.getElem?_eq_getElem h1, List.getD_eq_getElem?_getD, List.getElem?_eq_getElem h2] at this
/-- the document's machine is the program's; its free steps rise -/
theorem ref_build (l : List Rx) : refN l = buildN l ∧ ∀ n, buildN l = some n → Rise n := by
  by_cases hc : l.length ≤ 16 ∧ l ≠ [] ∧ l.all rightR = true
  · obtain ⟨h1, h2, h3⟩ := hc
    have hlen : 1 ≤ l.length := by cases l with | nil => exact absurd rfl h2 | cons _ _ => simp
    obtain ⟨n, hn⟩ := buildFrom_some l 0 (addState emptyN) h3
    have hb : buildN l = some n := by rw [buildN, if_pos ⟨hlen, h1⟩, hn]
    obtain ⟨hp, hrt⟩ := buildN_pre hb
    obtain ⟨g1, -, -, -⟩ := build_right hb
    have htz : Tz n := buildFrom_tz l 0 _ n (OkM.addState ⟨rfl, rfl, rfl, fun i x hx => by simp [emptyN] at hx, fun i hi => by simp [emptyN] at hi, fun i => by simp [emptyN]⟩) (fun s _ => by cases s <;> simp [addState, emptyN]) (by simp [kN, addState, emptyN]) (by omega) hn
    have hsl : shapesL l = true := by rw [shapesL_eq, List.all_eq_true]; exact fun x hx => (sizes hrt x hx).2
    have hR := refFrom_pre l [] (zeroN (1 + 2 * sizeL l)) (1 + 2 * sizeL l) (preR_zero _) hsl (by simp [sizeL])
    simp only [List.nil_append, List.length_nil, sizeL, Nat.mul_zero, Nat.add_zero] at hR
    have href : refN l = some (refFrom l 0 1 (zeroN (1 + 2 * sizeL l))) := by rw [refN, if_pos ⟨h1, h2, h3⟩]
    generalize refFrom l 0 1 (zeroN (1 + 2 * sizeL l)) = m at *
    have hkn := hp.k
    have hkm := hR.k
    have hlike : ∀ s, s < kN n → Like n m s := fun s hs => by
      by_cases e : s = 0
      · subst e; exact like_only hp.s0 hR.s0
      · exact fragR_like l 1 hp.fr hR.fr s (by omega) (by omega)
    have e1 : m.set = n.set := ext_getD (d := 0) (by simp only [kN] at hkn hkm; omega) fun i hi => (hlike i (by simp only [kN] at hkn hkm ⊢; omega)).1
    have e2 : m.free = n.free := ext_getD (d := []) (by rw [hR.lF, g1.lF]; omega) fun i hi => (hlike i (by rw [hR.lF] at hi; omega)).2.1
    have e3 : m.to = n.to := ext_getD (d := 0) (by rw [hR.lT, g1.lT]; omega) fun i hi => by
      have hl := hlike i (by rw [hR.lT] at hi; omega)
      by_cases hz : n.set.getD i 0 = 0
      · rw [htz i hz]
        exact hR.tz i (hl.1.trans hz)
      · exact hl.2.2 hz
    have e4 : m.rule = n.rule := ext_getD (d := -1) (by rw [hR.lR, g1.lR]; omega) fun i hi => by
      have hm1 := hR.rm i
      have hn1 := (g1.ru i).1
      by_cases hz : 0 ≤ m.rule.getD i (-1)
      · obtain ⟨q, hq⟩ : ∃ q : Nat, m.rule.getD i (-1) = (q : Int) := ⟨(m.rule.getD i (-1)).toNat, by omega⟩
        rw [hq, (hp.ru i q).2 ((hR.ru i q).1 hq)]
      · by_cases hz2 : 0 ≤ n.rule.getD i (-1)
        · obtain ⟨q, hq⟩ : ∃ q : Nat, n.rule.getD i (-1) = (q : Int) := ⟨(n.rule.getD i (-1)).toNat, by omega⟩
          rw [hq, (hR.ru i q).2 ((hp.ru i q).1 hq)]
        · omega
    have e5 : m = n := by
      cases m; cases n
      simp only at e1 e2 e3 e4
      rw [e1, e2, e3, e4]
    refine ⟨by rw [href, hb, e5], fun n' hn' => ?_⟩
    rw [hb] at hn'
    cases hn'
    rw [← e5]; exact hR.rise
  · have hb : buildN l = none := by
      cases h : buildN l with
      | none => rfl
      | some n =>
        obtain ⟨-, hrt⟩ := buildN_pre h
        obtain ⟨-, -, -, g4⟩ := build_right h
        refine absurd ⟨g4, fun e => ?_, List.all_eq_true.2 hrt⟩ hc
        subst e
        rw [buildN, if_neg (by simp)] at h
        cases h
    refine ⟨by rw [refN, if_neg hc, hb], fun n hn => ?_⟩
    rw [hb] at hn; cases hn
end Go.Proofs.W
end
/- From a law's runs to the row that lists variables. -/
section
set_option linter.unusedVariables false
namespace Vm
open Go
section
variable {P : Program}
theorem typed_str {t : TypeId} {ds : List D} (hu : P.underlying t = some .string) (h : Typed P t ds) : ∃ s, ds = [.str s] ∧ s.length ≤ maxLen := by
  cases h with
  | bool _ b h => rw [hu] at h; cases h
  | int _ k1 n h hn => rw [hu] at h; cases h
  | str _ s h hs => exact ⟨s, rfl, hs⟩
  | slice _ e xs h hl hx => rw [hu] at h; cases h
  | struct _ fs ds h hf => rw [hu] at h; cases h
  | array _ e n ds h hf => rw [hu] at h; cases h
theorem typed_bool {t : TypeId} {ds : List D} (hu : P.underlying t = some .bool) (h : Typed P t ds) : ∃ b, ds = [.bool b] := by
  cases h with
  | bool _ b h => exact ⟨b, rfl⟩
  | int _ k1 n h hn => rw [hu] at h; cases h
  | str _ s h hs => rw [hu] at h; cases h
  | slice _ e xs h hl hx => rw [hu] at h; cases h
  | struct _ fs ds h hf => rw [hu] at h; cases h
  | array _ e n ds h hf => rw [hu] at h; cases h
theorem typedF_cons {t : TypeId} {ts : List TypeId} {ds : List D} (h : TypedF P (t :: ts) ds) : ∃ a b, ds = a ++ b ∧ Typed P t a ∧ TypedF P ts b := by
  cases h with
  | cons _ _ a b h hr => exact ⟨a, b, rfl, h, hr⟩
theorem typedE_one {e : TypeId} {xs : List D} (ha : aggT P e = false) (h : TypedE P e xs) {α : Type} (f : α → D) (hf : ∀ x, Typed P e [x] → ∃ a, x = f a) : ∃ l : List α, xs = l.map f := by
  induction xs with
  | nil => exact ⟨[], rfl⟩
  | cons x xs ih =>
    cases h with
    | agg _ cs _ ha' h hr => rw [ha] at ha'; cases ha'
    | one _ _ _ ha' h hr =>
      obtain ⟨l, hl⟩ := ih hr
      obtain ⟨a, hb⟩ := hf x h
      exact ⟨a :: l, by rw [List.map_cons, ← hl, hb]⟩
/-- as 'typedE_agg', for what lies within: each element is less than the list -/
theorem typedE_aggI {e : TypeId} {xs : List D} (ha : aggT P e = true) (h : TypedE P e xs) {α : Type} (f : α → D) (q : α → Prop) (hf : ∀ cs, SizeOf.sizeOf cs < SizeOf.sizeOf xs → Typed P e cs → ∃ a, D.agg cs = f a ∧ q a) : ∃ l : List α, xs = l.map f ∧ ∀ a ∈ l, q a := by
  induction xs with
  | nil => exact ⟨[], rfl, by simp⟩
  | cons x xs ih =>
    cases h with
    | agg _ cs _ ha' h hr =>
      obtain ⟨l, hl, hq⟩ := ih hr (fun cs hc => hf cs (by simp only [List.cons.sizeOf_spec]; omega))
      obtain ⟨a, hb, hqa⟩ := hf cs (by simp only [List.cons.sizeOf_spec, D.agg.sizeOf_spec]; omega) h
      refine ⟨a :: l, by rw [List.map_cons, ← hl, hb], fun y hy => ?_⟩
      rcases List.mem_cons.1 hy with rfl | hy
      · exact hqa
      · exact hq y hy
    | one _ _ _ ha' h hr => rw [ha] at ha'; cases ha'
theorem typedF_nil' {ds : List D} (h : TypedF P [] ds) : ds = [] := by cases h; rfl
theorem typedA_str {t : TypeId} {ts : List TypeId} {ds : List D} (hu : P.underlying t = some .string) (ha : aggT P t = false) (h : TypedA P (t :: ts) ds) : ∃ s r, ds = .str s :: r ∧ s.length ≤ maxLen ∧ TypedA P ts r := by
  obtain ⟨d, r, rfl, h1, h2⟩ := typedA_one ha h
  obtain ⟨s, hs, hl⟩ := typed_str hu h1
  cases hs
  exact ⟨s, r, rfl, hl, h2⟩
theorem typedA_int {t : TypeId} {k : IntKind} {ts : List TypeId} {ds : List D} (hu : P.underlying t = some (.int k)) (ha : aggT P t = false) (h : TypedA P (t :: ts) ds) : ∃ n r, ds = .int k n :: r ∧ (Lit.int k n).wf = true ∧ TypedA P ts r := by
  obtain ⟨d, r, rfl, h1, h2⟩ := typedA_one ha h
  obtain ⟨s, hs, hl⟩ := typed_int hu h1
  cases hs
  exact ⟨s, r, rfl, hl, h2⟩
theorem typedA_slice {t e : TypeId} {ts : List TypeId} {ds : List D} (hu : P.underlying t = some (.slice e)) (ha : aggT P t = false) (h : TypedA P (t :: ts) ds) : ∃ xs r, ds = .sl false xs :: r ∧ xs.length ≤ maxLen ∧ TypedE P e xs ∧ TypedA P ts r := by
  obtain ⟨d, r, rfl, h1, h2⟩ := typedA_one ha h
  obtain ⟨s, hs, hl, hx⟩ := typed_slice hu h1
  cases hs
  exact ⟨s, r, rfl, hl, hx, h2⟩
theorem typedE_ints {e : TypeId} {k : IntKind} {xs : List D} (hu : P.underlying e = some (.int k)) (ha : aggT P e = false) (h : TypedE P e xs) : ∃ l : List Int, xs = l.map (.int k) :=
  typedE_one ha h _ fun x hx => by
    obtain ⟨n, hn, -⟩ := typed_int hu hx
    cases hn
    exact ⟨n, rfl⟩
end

/-- the row's contract, where it lists variables and a function reads one of the library's own -/
theorem law_lifted {C : Checked} {os : Os} {f : FuncId} {fn : Func} {s : ChangeSpec} {H : Type} {enc : TypeId × Value → H} {conds : List PathCond} {laid : List (String × DataW Unit)} {A : Ann} {S : List TypeId} {tb : TypeId}
    (started : os.Started) (own : ownKnob C.prog.godebug = none) (noInit : C.prog.inits.idxOf? f = none) (hfn : C.prog.funcs[f]? = some fn)
    (witness : ∃ (w : World) (tape : Tape) (i : Input), w.os = os ∧ (w.forCall tape i).Shaped C.prog ∧ i.vars = [] ∧ Input.okWide C.prog (w.forCall tape i) .any w.heap.size f i ∧
      ((s.pre enc C.prog fn conds false (w.forCall tape i).memory i.args ∧ laidMetH C.prog laid (w.forCall tape i).memory) ∧ sizedMet enc C.prog fn (OpenSpec.ofChange s) false (w.forCall tape i).memory i.args) ∧ ({} : Assume).holds C.prog (lone (Frame.enter C.prog f i.args .normal) [] (w.forCall tape i)))
    (hvars : s.vars = []) (hl : laidOutB C.prog = true)
    (hts : (fn.params.toList.all fun t => C.prog.readableRec t && decide (t < C.prog.types.size)) = true) (hS : plainS C.prog S = true) (hpl : (fn.params.toList.all fun t => S.contains t) = true)
    (hbod : bodied C.prog f = true) (hres : fn.resultTypes = #[tb]) (htb : C.prog.underlying tb = some .bool)
    (hs : ∀ ds : List (DataW H), ds.length = fn.params.size → (s.fn H ds).results = [.lit (.bool true)] ∧ (s.fn H ds).args = ds ∧ (s.fn H ds).vars = [])
    (hprim : ∀ W : World, W.ShapedOpen C.prog → @PrimOk ⟨im0 W⟩ C.prog A)
    (hrun : ∀ Ds, TypedA C.prog fn.params.toList Ds → ∃ k H', runF C.prog A k f Ds [] = some (.ok (.bool true) H')) :
    ReturnsInHanded {} C os f .any (fun w args => (s.pre enc C.prog fn conds false w args ∧ laidMetH C.prog laid w) ∧ sizedMet enc C.prog fn (OpenSpec.ofChange s) false w args) (s.post enc C.prog fn false true false false) := by
  refine returnsInHanded_of_calls own started noInit witness ?_
  intro w tape i _ hsh _ hok hpre hholds
  obtain ⟨_, _, _, fn', hfn', _, _, _, _, hval⟩ := hok
  have e : fn' = fn := Option.some.inj (hfn'.symm.trans hfn)
  subst e
  obtain ⟨⟨⟨ds, gs, before, hw, hc⟩, hx⟩, hz⟩ := hpre
  have hw' := DataW.Whole.of_heap (w' := w.forCall tape i) (by rfl) hw
  have hts' : ∀ t ∈ fn'.params.toList, C.prog.readableRec t = true ∧ t < C.prog.types.size := fun t ht => by
    have h2 : C.prog.readableRec t = true ∧ decide (t < C.prog.types.size) = true := by simpa only [Bool.and_eq_true] using List.all_eq_true.1 hts t ht
    exact ⟨h2.1, of_decide_eq_true h2.2⟩
  refine (law_contract hvars hl hts' hS hpl hbod hres htb hs hrun (w.forCall tape i) w.heap.size i.args ds gs before hval hw' (hprim _ hsh)).mono fun e W' ⟨v, he, hp⟩ => ?_
  subst he
  exact ChangeSpec.post_blind hp
end Vm
end
/- Typed expressions. -/
section
set_option maxHeartbeats 4000000
set_option linter.unusedVariables false
set_option linter.unusedSimpArgs false
namespace Go.Proofs.W
open Go Vm Go.Proofs.Zsb6

theorem wf_u16' {n : Int} (h : (Lit.int .u16 n).wf = true) : 0 ≤ n ∧ n < 65536 := by simp [Lit.wf, IntKind.min, IntKind.max, IntKind.signed, IntKind.bits] at h; omega
theorem ftRx : fieldTs Try.prog 40 = some [5, 36, 22] := by kernel_rfl
theorem aggRx : aggT Try.prog 40 = true := by kernel_rfl
mutual
def tyR : Rx → Prop
  | .mk k s l => 0 ≤ k ∧ k < 256 ∧ 0 ≤ s ∧ s < 65536 ∧ tyL l
def tyL : List Rx → Prop
  | [] => True
  | r :: l => tyR r ∧ tyL l
end
theorem tyL_of : ∀ {l : List Rx}, (∀ r ∈ l, tyR r) → tyL l
  | [], _ => trivial
  | r :: l, h => ⟨h r (by simp), tyL_of fun x hx => h x (by simp [hx])⟩
theorem tyL_get : ∀ {l : List Rx}, tyL l → ∀ r ∈ l, tyR r
  | r :: l, h, x, hx => by
    rcases List.mem_cons.1 hx with rfl | hx
    · exact h.1
    · exact tyL_get h.2 x hx
theorem okL_of : ∀ {l : List Rx}, (∀ r ∈ l, okR r) → okL l
  | [], _ => trivial
  | r :: l, h => ⟨h r (by simp), okL_of fun x hx => h x (by simp [hx])⟩
theorem ok_of_great : ∀ (m : Nat) (r : Rx), tyR r → greatR m r = false → okR r := by
  intro m
  induction m with
  | zero => rintro ⟨k, s, l⟩ _ h; simp [greatR] at h
  | succ m ih =>
    rintro ⟨k, s, l⟩ ⟨h1, h2, h3, h4, h5⟩ h
    simp only [greatR, Bool.or_eq_false_iff, decide_eq_false_iff_not] at h
    exact ⟨h1, h2, h3, h4, by omega, okL_of fun r hr => ih r (tyL_get h5 r hr) (by simpa using List.any_eq_false.1 h.2 r hr)⟩
theorem wf_u8 {n : Int} (h : (Lit.int .u8 n).wf = true) : 0 ≤ n ∧ n < 256 := by simp [Lit.wf, IntKind.min, IntKind.max, IntKind.signed, IntKind.bits] at h; omega
theorem rx_of_typed : ∀ (n : Nat) (cs : List D), SizeOf.sizeOf cs < n → Typed Try.prog 40 cs → ∃ r : Rx, D.agg cs = rxD r ∧ tyR r := by
  intro n
  induction n with
  | zero => intro cs h; omega
  | succ n ih =>
    intro cs hn h
    have hf0 := typed_fields ftRx h
    obtain ⟨a, b, rfl, ha, hf1⟩ := typedF_cons hf0
    obtain ⟨k, rfl, hk⟩ := typed_int un5 ha
    obtain ⟨a, b2, rfl, ha, hf2⟩ := typedF_cons hf1
    obtain ⟨s, rfl, hs⟩ := typed_int un36 ha
    obtain ⟨a, b, rfl, ha, hf3⟩ := typedF_cons hf2
    obtain ⟨xs, rfl, hl, hx⟩ := typed_slice un22 ha
    cases typedF_nil hf3
    simp only [List.cons_append, List.nil_append, List.append_nil, List.cons.sizeOf_spec, D.sl.sizeOf_spec] at hn
    obtain ⟨l, rfl, hq⟩ := typedE_aggI aggRx hx rxD tyR fun cs hc ht => ih cs (by omega) ht
    refine ⟨.mk k s l, by rw [rx_mk, rxDs_map]; rfl, (wf_u8 hk).1, (wf_u8 hk).2, (wf_u16' hs).1, (wf_u16' hs).2, tyL_of hq⟩
theorem rxs_of_typed {xs : List D} (h : TypedE Try.prog 40 xs) : ∃ l : List Rx, xs = rxDs l ∧ ∀ r ∈ l, tyR r := by
  obtain ⟨l, rfl, hq⟩ := typedE_aggI aggRx h rxD tyR fun cs _ hc => rx_of_typed _ cs (Nat.lt_succ_self _) hc
  exact ⟨l, (rxDs_map l).symm, hq⟩
end Go.Proofs.W
end
/- Whether expressions are more than are looked at. -/
section
set_option maxHeartbeats 4000000
set_option linter.unusedVariables false
set_option linter.unusedSimpArgs false
namespace Go.Proofs.W
open Go Vm Go.Proofs.Zsb6

def greatE (l : List Rx) : Bool := decide (20 < l.length) || l.any (greatR 20)
theorem any_drop {p : Rx → Bool} {l : List Rx} {j : Nat} (h : j < l.length) : (l.drop j).any p = (p l[j] || (l.drop (j + 1)).any p) := by
  rw [List.drop_eq_getElem_cons h]; rfl
theorem strip_rxsD (l : List Rx) : stripL [rxsD l] = some [rxsD l] := strip1 (by simp [rxsD, strip, strip_rxs])
theorem greatE_ok (l : List Rx) : PureF Try.prog A 5 [rxsD l] (.bool (greatE l)) := by
  refine evF_inB (n := 18) (rs := [.tmp 2]) Try.func5 rfl rfl rfl rfl rfl rfl ?_
  by_cases c1 : l.length ≤ 20
  case neg =>
    have : greatE l = true := by simp [greatE]; omega
    rw [this]
    repeat' (first | refine wz1 ?_ | refine wz2 ?_ | refine wz3 ?_ | refine wz4 ?_ | refine wz5 ?_ | refine wz6 ?_ | simp -dsimp (maxSteps:=999999) (disch:=omega) only[go_sem,simprocAttr, *,rxsD] | ((first | refine wz8 (fun hh => ?_) (fun hh => ?_) | refine wz9 (fun hh => ?_) (fun hh => ?_) | refine wpB_cond (by simp -dsimp (maxSteps:=999999) (disch:=omega) only[go_sem,simprocAttr, *,rxsD]; exact rfl) (fun hh => ?_) (fun hh => ?_)) <;> (try replace hh := vqs hh) <;> (try (exfalso; first | exact hh | omega))))
  have hz : greatE l = (l.drop 0).any (greatR 20) := by simp [greatE]; omega
  rw [hz]
  generalize hG : (l.drop 0).any (greatR 20) = G
  clear hz
  repeat' (first | refine wz1 ?_ | refine wz2 ?_ | refine wz3 ?_ | refine wz4 ?_ | refine wz5 ?_ | refine wz6 ?_ | simp -dsimp (maxSteps:=999999) (disch:=omega) only[go_sem,simprocAttr, *,rxsD] | ((first | refine wz8 (fun hh => ?_) (fun hh => ?_) | refine wz9 (fun hh => ?_) (fun hh => ?_) | refine wpB_cond (by simp -dsimp (maxSteps:=999999) (disch:=omega) only[go_sem,simprocAttr, *,rxsD]; exact rfl) (fun hh => ?_) (fun hh => ?_)) <;> (try replace hh := vqs hh) <;> (try (exfalso; first | exact hh | omega))))
  refine wpB_loop (fun e H => ∃ j : Nat, j ≤ l.length ∧ e 0 = rxsD l ∧ e 3 = .int .i64 j ∧ G = (l.drop j).any (greatR 20)) (fun e H => l.length - natOf (e 3)) ?_ ?_
  · exact ⟨0, by omega, by simp -dsimp (maxSteps:=999999) (disch:=omega) only[go_sem,simprocAttr, *,rxsD], gs, hG.symm⟩
  · clear hG
    rintro e H ⟨j, hj, e0, e3, hG⟩ R hR
    by_cases hb : j < l.length
    · have hx : (rxDs l)[j]? = some (rxD l[j]) := by rw [rxDs_at, List.getElem?_eq_getElem hb]; rfl
      have q1 := rx_cells l[j]
      have q2 := rx_aggQ l[j]
      have q3 := rx_noTup l[j]
      have hgr := great_ok 20 (by omega) l[j]
      have hst := strip2 (strip_rx l[j]) (strip_int (k := .i64) (n := 20))
      rw [any_drop hb] at hG
      rw [show ((20 : Nat) : Int) = 20 from rfl] at hgr
      generalize rxD l[j] = dk at *
      repeat' (first | refine wz1 ?_ | refine wz2 ?_ | refine wz3 ?_ | refine wz4 ?_ | refine wz5 ?_ | refine wz6 ?_ | simp -dsimp (maxSteps:=999999) (disch:=omega) only[go_sem,simprocAttr, *,rxsD] | ((first | refine wz8 (fun hh => ?_) (fun hh => ?_) | refine wz9 (fun hh => ?_) (fun hh => ?_) | refine wpB_cond (by simp -dsimp (maxSteps:=999999) (disch:=omega) only[go_sem,simprocAttr, *,rxsD]; exact rfl) (fun hh => ?_) (fun hh => ?_)) <;> (try replace hh := vqs hh) <;> (try (exfalso; first | exact hh | omega))))
      refine evB_plain bo14 rfl rfl hst hgr ?_
      cases hq : greatR 20 l[j] with
      | true =>
        rw [hq, Bool.true_or] at hG
        rw [hG]
        repeat' (first | refine wz1 ?_ | refine wz2 ?_ | refine wz3 ?_ | refine wz4 ?_ | refine wz5 ?_ | refine wz6 ?_ | simp -dsimp (maxSteps:=999999) (disch:=omega) only[go_sem,simprocAttr, *] | ((first | refine wz8 (fun hh => ?_) (fun hh => ?_) | refine wz9 (fun hh => ?_) (fun hh => ?_) | refine wz7 (fun hh => ?_) (fun hh => ?_)) <;> (try replace hh := vqs hh) <;> (try (exfalso; first | exact hh | omega))))
      | false =>
        rw [hq, Bool.false_or] at hG
        repeat' (first | refine wz1 ?_ | refine wz2 ?_ | refine wz3 ?_ | refine wz4 ?_ | refine wz5 ?_ | refine wz6 ?_ | simp -dsimp (maxSteps:=999999) (disch:=omega) only[go_sem,simprocAttr, *] | ((first | refine wz8 (fun hh => ?_) (fun hh => ?_) | refine wz9 (fun hh => ?_) (fun hh => ?_) | refine wz7 (fun hh => ?_) (fun hh => ?_)) <;> (try replace hh := vqs hh) <;> (try (exfalso; first | exact hh | omega))))
        refine hR _ _ ⟨j + 1, by omega, by simp -dsimp (maxSteps:=999999) (disch:=omega) only[go_sem,simprocAttr, *,rxsD], gs, hG⟩ ?_
        simp -dsimp (maxSteps:=999999) (disch:=omega) only[go_sem,simprocAttr, *,natOf_int]
    · rw [List.drop_eq_nil_of_le (by omega)] at hG
      have : G = false := hG
      rw [this]
      repeat' (first | refine wz1 ?_ | refine wz2 ?_ | refine wz3 ?_ | refine wz4 ?_ | refine wz5 ?_ | refine wz6 ?_ | simp -dsimp (maxSteps:=999999) (disch:=omega) only[go_sem,simprocAttr, *,rxsD] | ((first | refine wz8 (fun hh => ?_) (fun hh => ?_) | refine wz9 (fun hh => ?_) (fun hh => ?_) | refine wpB_cond (by simp -dsimp (maxSteps:=999999) (disch:=omega) only[go_sem,simprocAttr, *,rxsD]; exact rfl) (fun hh => ?_) (fun hh => ?_)) <;> (try replace hh := vqs hh) <;> (try (exfalso; first | exact hh | omega))))
theorem ok_of_greatE {l : List Rx} (ht : ∀ r ∈ l, tyR r) (h : greatE l = false) : ∀ r ∈ l, okR r := fun r hr => by
  simp only [greatE, Bool.or_eq_false_iff] at h
  exact ok_of_great 20 r (ht r hr) (by simpa using List.any_eq_false.1 h.2 r hr)
end Go.Proofs.W
end
/- The law on the machine of expressions. -/
section
set_option maxHeartbeats 4000000
set_option linter.unusedVariables false
set_option linter.unusedSimpArgs false
namespace Go.Proofs.W
open Go Vm Go.Proofs.Zsb6

theorem alive_ok6 : PureF Try.prog A 4 [] (.bool true) := okTrue_run alive_run
theorem sorted_ok (l : List Int) (hr : l.Pairwise (· < ·)) (hl : l.length ≤ 1000000) : PureF Try.prog A 10 [isD l] (isD l) := by
  have ew : isD l = .sl false (l.map (.int .i64)) := rfl
  have hst := strip_is l
  have hp : ∀ i (h : i + 1 < l.length), l[i] < l[i + 1] := fun i h => List.pairwise_iff_getElem.1 hr i (i + 1) (by omega) h (by omega)
  refine evF_inB (n := 22) (rs := [.tmp 2]) Try.func10 rfl rfl rfl rfl rfl rfl ?_
  repeat' (first | refine wz1 ?_ | refine wz2 ?_ | refine wz3 ?_ | refine wz4 ?_ | refine wz5 ?_ | refine wz6 ?_ | simp -dsimp (maxSteps:=999999) (disch:=omega) only[go_sem,simprocAttr, *] | ((first | refine wz8 (fun hh => ?_) (fun hh => ?_) | refine wz9 (fun hh => ?_) (fun hh => ?_) | refine wz7 (fun hh => ?_) (fun hh => ?_)) <;> (try replace hh := vqs hh) <;> (try (exfalso; first | exact hh | omega))))
  refine wpB_loop (fun e H => ∃ i : Nat, (i ≤ l.length ∨ i = 1) ∧ 1 ≤ i ∧ H = [] ∧ e 0 = isD l ∧ e 3 = .int .i64 i) (fun e H => l.length - natOf (e 3)) ?_ ?_
  · exact ⟨1, by omega, by omega, rfl, gs, gs⟩
  rintro e H ⟨i, hi, h1, rfl, e0, e3⟩ R hR
  by_cases hb : i < l.length
  · obtain ⟨k, rfl⟩ : ∃ k, i = k + 1 := ⟨i - 1, by omega⟩
    have hx1 : (l.map (D.int .i64))[k]? = some (.int .i64 l[k]) := by simp [show k < l.length by omega]
    have hx2 : (l.map (D.int .i64))[k + 1]? = some (.int .i64 l[k + 1]) := by simp [hb]
    have hlt := hp k hb
    have hkk : ((k : Int) + 1 - 1).toNat = k := by omega
    clear hp hr hst
    generalize l[k] = y at *
    generalize l[k + 1] = z at *
    repeat' (first | refine wz1 ?_ | refine wz2 ?_ | refine wz3 ?_ | refine wz4 ?_ | refine wz5 ?_ | refine wz6 ?_ | simp -dsimp (maxSteps:=999999) (disch:=omega) only[go_sem,simprocAttr, *] | ((first | refine wz8 (fun hh => ?_) (fun hh => ?_) | refine wz9 (fun hh => ?_) (fun hh => ?_) | refine wz7 (fun hh => ?_) (fun hh => ?_)) <;> (try replace hh := vqs hh) <;> (try (exfalso; first | exact hh | omega))))
    refine wpB_regionXL (prs := []) (by kernel_rfl) rfl (by kernel_rfl) ?_; simp -dsimp (maxSteps:=999999) (disch:=omega) only[go_sem,simprocAttr, *]
    repeat' (first | refine wz1 ?_ | refine wz2 ?_ | refine wz3 ?_ | refine wz4 ?_ | refine wz5 ?_ | refine wz6 ?_ | simp -dsimp (maxSteps:=999999) (disch:=omega) only[go_sem,simprocAttr, *] | ((first | refine wz8 (fun hh => ?_) (fun hh => ?_) | refine wz9 (fun hh => ?_) (fun hh => ?_) | refine wz7 (fun hh => ?_) (fun hh => ?_)) <;> (try replace hh := vqs hh) <;> (try (exfalso; first | exact hh | omega))))
    refine hR _ _ ⟨k + 1 + 1, by omega, by omega, rfl, gs, gs⟩ ?_
    simp -dsimp (maxSteps:=999999) (disch:=omega) only[go_sem,simprocAttr, *,natOf_int]
  · clear hp
    rw [ew] at hst
    repeat' (first | refine wz1 ?_ | refine wz2 ?_ | refine wz3 ?_ | refine wz4 ?_ | refine wz5 ?_ | refine wz6 ?_ | simp -dsimp (maxSteps:=999999) (disch:=omega) only[go_sem,simprocAttr, *] | ((first | refine wz8 (fun hh => ?_) (fun hh => ?_) | refine wz9 (fun hh => ?_) (fun hh => ?_) | refine wz7 (fun hh => ?_) (fun hh => ?_)) <;> (try replace hh := vqs hh) <;> (try (exfalso; first | exact hh | omega))))
    exact outPure_strip hst
theorem zrN7 : zeroT Try.prog 29 = some (.agg [.sl true [], .sl true [], .sl true [], .sl true []]) := by kernel_rfl
theorem builds_law (l : List Rx) (hok : greatE l = false → ∀ r ∈ l, okR r) : Yes 3 [rxsD l] := by
  refine evF_inB (n := 147) (rs := [.tmp 2]) Try.func3 rfl rfl rfl rfl rfl rfl ?_
  repeat' (first | refine wz1 ?_ | refine wz2 ?_ | refine wz3 ?_ | refine wz4 ?_ | refine wz5 ?_ | refine wz6 ?_ | simp -dsimp (maxSteps:=999999) (disch:=omega) only[go_sem,simprocAttr, *] | ((first | refine wz8 (fun hh => ?_) (fun hh => ?_) | refine wz9 (fun hh => ?_) (fun hh => ?_) | refine wz7 (fun hh => ?_) (fun hh => ?_)) <;> (try replace hh := vqs hh) <;> (try (exfalso; first | exact hh | omega))))
  refine evB_plain bo4 rfl rfl rfl alive_ok6 ?_
  repeat' (first | refine wz1 ?_ | refine wz2 ?_ | refine wz3 ?_ | refine wz4 ?_ | refine wz5 ?_ | refine wz6 ?_ | simp -dsimp (maxSteps:=999999) (disch:=omega) only[go_sem,simprocAttr, *] | ((first | refine wz8 (fun hh => ?_) (fun hh => ?_) | refine wz9 (fun hh => ?_) (fun hh => ?_) | refine wz7 (fun hh => ?_) (fun hh => ?_)) <;> (try replace hh := vqs hh) <;> (try (exfalso; first | exact hh | omega))))
  refine evB_plain bo5 rfl rfl (strip_rxsD l) (greatE_ok l) ?_
  cases hg : greatE l with
  | true => repeat' (first | refine wz1 ?_ | refine wz2 ?_ | refine wz3 ?_ | refine wz4 ?_ | refine wz5 ?_ | refine wz6 ?_ | simp -dsimp (maxSteps:=999999) (disch:=omega) only[go_sem,simprocAttr, *] | ((first | refine wz8 (fun hh => ?_) (fun hh => ?_) | refine wz9 (fun hh => ?_) (fun hh => ?_) | refine wz7 (fun hh => ?_) (fun hh => ?_)) <;> (try replace hh := vqs hh) <;> (try (exfalso; first | exact hh | omega))))
  | false =>
    have hr := hok hg
    have hl20 : l.length ≤ 20 := by simp only [greatE, Bool.or_eq_false_iff, decide_eq_false_iff_not] at hg; omega
    have hB := build_ok l hr (by omega)
    have hRB := refbuild_ok l (fun i h _ => hr _ (List.getElem_mem h)) (by omega)
    obtain ⟨href, hrise⟩ := ref_build l
    rw [href] at hRB
    clear hok hg href
    repeat' (first | refine wz1 ?_ | refine wz2 ?_ | refine wz3 ?_ | refine wz4 ?_ | refine wz5 ?_ | refine wz6 ?_ | simp -dsimp (maxSteps:=999999) (disch:=omega) only[go_sem,simprocAttr, *] | ((first | refine wz8 (fun hh => ?_) (fun hh => ?_) | refine wz9 (fun hh => ?_) (fun hh => ?_) | refine wz7 (fun hh => ?_) (fun hh => ?_)) <;> (try replace hh := vqs hh) <;> (try (exfalso; first | exact hh | omega))))
    refine evB_plain bo6 rfl rfl (strip_rxsD l) hB ?_
    cases hb : buildN l with
    | none =>
      have a1 := nfa_noTup emptyN
      have a2 : (nfaD emptyN).cells = [.sl false [], .sl false [], .sl false [], .sl false []] := rfl
      have a3 := nfa_aggQ emptyN
      rw [hb] at hRB
      clear hrise hB
      repeat' (first | refine wz1 ?_ | refine wz2 ?_ | refine wz3 ?_ | refine wz4 ?_ | refine wz5 ?_ | refine wz6 ?_ | simp -dsimp (maxSteps:=999999) (disch:=omega) only[go_sem,simprocAttr, *,builtD, zrN7] | ((first | refine wz8 (fun hh => ?_) (fun hh => ?_) | refine wz9 (fun hh => ?_) (fun hh => ?_) | refine wpB_cond (by simp -dsimp (maxSteps:=999999) (disch:=omega) only[go_sem,simprocAttr, *,builtD, zrN7]; exact rfl) (fun hh => ?_) (fun hh => ?_)) <;> (try replace hh := vqs hh) <;> (try (exfalso; first | exact hh | omega))))
      refine evB_plain bo7 rfl rfl (strip_rxsD l) hRB ?_
      repeat' (first | refine wz1 ?_ | refine wz2 ?_ | refine wz3 ?_ | refine wz4 ?_ | refine wz5 ?_ | refine wz6 ?_ | simp -dsimp (maxSteps:=999999) (disch:=omega) only[go_sem,simprocAttr, *,refD, zrN7] | ((first | refine wz8 (fun hh => ?_) (fun hh => ?_) | refine wz9 (fun hh => ?_) (fun hh => ?_) | refine wpB_cond (by simp -dsimp (maxSteps:=999999) (disch:=omega) only[go_sem,simprocAttr, *,refD, zrN7]; exact rfl) (fun hh => ?_) (fun hh => ?_)) <;> (try replace hh := vqs hh) <;> (try (exfalso; first | exact hh | omega))))
    | some n =>
      obtain ⟨g0, g2, g3, g4⟩ := build_right hb
      have hrs := hrise n hb
      rw [hb] at hRB
      have a1 := nfa_noTup n
      have a2 : (nfaD n).cells = [.sl false (n.free.map isD), .sl false (n.set.map (.int .u16)), .sl false (n.to.map (.int .i64)), .sl false (n.rule.map (.int .i64))] := rfl
      have a3 := nfa_aggQ n
      obtain ⟨hk1, hk2, hkf, hkt, hkr, -⟩ := right_row g3
      have hIr := ints_ok n.rule n.rule (by omega)
      have sIr := strip2 (strip_is n.rule) (strip_is n.rule)
      simp only [beq_self_eq_true] at hIr
      rw [show isD n.rule = .sl false (n.rule.map (.int .i64)) from rfl] at hIr sIr
      clear hrise hB hb
      have hll : n.free.length ≤ 3300 ∧ n.to.length ≤ 3300 ∧ n.rule.length ≤ 3300 := by omega
      repeat' (first | refine wz1 ?_ | refine wz2 ?_ | refine wz3 ?_ | refine wz4 ?_ | refine wz5 ?_ | refine wz6 ?_ | simp -dsimp (maxSteps:=999999) (disch:=omega) only[go_sem,simprocAttr, *,builtD, zrN7] | ((first | refine wz8 (fun hh => ?_) (fun hh => ?_) | refine wz9 (fun hh => ?_) (fun hh => ?_) | refine wpB_cond (by simp -dsimp (maxSteps:=999999) (disch:=omega) only[go_sem,simprocAttr, *,builtD, zrN7]; exact rfl) (fun hh => ?_) (fun hh => ?_)) <;> (try replace hh := vqs hh) <;> (try (exfalso; first | exact hh | omega))))
      refine evB_plain bo7 rfl rfl (strip_rxsD l) hRB ?_
      repeat' (first | refine wz1 ?_ | refine wz2 ?_ | refine wz3 ?_ | refine wz4 ?_ | refine wz5 ?_ | refine wz6 ?_ | simp -dsimp (maxSteps:=999999) (disch:=omega) only[go_sem,simprocAttr, *,refD, zrN7] | ((first | refine wz8 (fun hh => ?_) (fun hh => ?_) | refine wz9 (fun hh => ?_) (fun hh => ?_) | refine wpB_cond (by simp -dsimp (maxSteps:=999999) (disch:=omega) only[go_sem,simprocAttr, *,refD, zrN7]; exact rfl) (fun hh => ?_) (fun hh => ?_)) <;> (try replace hh := vqs hh) <;> (try (exfalso; first | exact hh | omega))))
      refine evB_plain bo8 rfl rfl sIr hIr ?_
      repeat' (first | refine wz1 ?_ | refine wz2 ?_ | refine wz3 ?_ | refine wz4 ?_ | refine wz5 ?_ | refine wz6 ?_ | simp -dsimp (maxSteps:=999999) (disch:=omega) only[go_sem,simprocAttr, *] | ((first | refine wz8 (fun hh => ?_) (fun hh => ?_) | refine wz9 (fun hh => ?_) (fun hh => ?_) | refine wz7 (fun hh => ?_) (fun hh => ?_)) <;> (try replace hh := vqs hh) <;> (try (exfalso; first | exact hh | omega))))
      refine wpB_loop (fun e H => ∃ i : Nat, i ≤ n.set.length ∧ H = [Ob.arr [nfaD n], Ob.arr [nfaD n]] ∧ e 3 = .ptr 0 0 0 ∧ e 5 = .ptr 1 0 0 ∧ e 7 = .int .i64 i) (fun e H => n.set.length - natOf (e 7)) ?_ ?_
      · exact ⟨0, by omega, gs, gs, gs, gs⟩
      rintro e H ⟨i, hi, rfl, e3, e5, e7⟩ R hR
      by_cases hbi : i < n.set.length
      case neg => repeat' (first | refine wz1 ?_ | refine wz2 ?_ | refine wz3 ?_ | refine wz4 ?_ | refine wz5 ?_ | refine wz6 ?_ | simp -dsimp (maxSteps:=999999) (disch:=omega) only[go_sem,simprocAttr, *] | ((first | refine wz8 (fun hh => ?_) (fun hh => ?_) | refine wz9 (fun hh => ?_) (fun hh => ?_) | refine wz7 (fun hh => ?_) (fun hh => ?_)) <;> (try replace hh := vqs hh) <;> (try (exfalso; first | exact hh | omega))))
      obtain ⟨s, hs1, hs2⟩ := ex_at (l := n.set) (i := i) 0 hbi
      obtain ⟨t, ht1, ht2⟩ := ex_at (l := n.to) (i := i) 0 (by omega)
      obtain ⟨fr, hf1, hf2⟩ := ex_at (l := n.free) (i := i) [] (by omega)
      have hri := hrs i
      rw [hf2] at hri
      have hfl : fr.length ≤ 1000000 := g2.fl fr (List.mem_of_getElem? hf1)
      have hso := sorted_ok fr hri hfl
      have hSt := stepc_ok n [(i : Int)] 3 g2 (by simp)
      rw [show stepN n 3 [(i : Int)] = stp n 3 [(i : Int)] by rw [stepN, if_pos g3]] at hSt
      have hstl := stp_len n 3 [(i : Int)]
      have hI1 := ints_ok (stp n 3 [(i : Int)]) (stp n 3 [(i : Int)]) (by omega)
      have hI2 := ints_ok fr fr (by omega)
      simp only [beq_self_eq_true] at hI1 hI2
      have t1 := stripNIc n [(i : Int)] 3
      have t2 := strip2 (strip_is (stp n 3 [(i : Int)])) (strip_is (stp n 3 [(i : Int)]))
      have t3 := strip1 (strip_is fr)
      have t4 := strip2 (strip_is fr) (strip_is fr)
      generalize stp n 3 [(i : Int)] = st at *
      have hfm : (n.free.map isD)[i]? = some (.sl false (fr.map (.int .i64))) := by simp [hf1, isD]
      clear hri hrs hs2 ht2 hf2
      rw [show isD [(i : Int)] = .sl false [.int .i64 i] from rfl] at hSt t1
      rw [show isD fr = .sl false (fr.map (.int .i64)) from rfl] at hso hI2 t3 t4
      by_cases hs0 : s = 0
      all_goals
        repeat' (first | refine wz1 ?_ | refine wz2 ?_ | refine wz3 ?_ | refine wz4 ?_ | refine wz5 ?_ | refine wz6 ?_ | simp -dsimp (maxSteps:=999999) (disch:=omega) only[go_sem,simprocAttr, *] | ((first | refine wz8 (fun hh => ?_) (fun hh => ?_) | refine wz9 (fun hh => ?_) (fun hh => ?_) | refine wz7 (fun hh => ?_) (fun hh => ?_)) <;> (try replace hh := vqs hh) <;> (try (exfalso; first | exact hh | omega))))
        refine wpB_regionXL (prs := []) (by kernel_rfl) rfl (by kernel_rfl) ?_; simp -dsimp (maxSteps:=999999) (disch:=omega) only[go_sem,simprocAttr, *]
        refine ⟨fun _ => by first | rfl | exact congrArg Option.isSome t1, evB_plain bo9 rfl rfl t1 hSt ?_⟩
        simp -dsimp (maxSteps:=999999) (disch:=omega) only[go_sem,simprocAttr, *]
        refine ⟨fun _ => by first | rfl | exact congrArg Option.isSome t1, evB_plain bo9 rfl rfl t1 hSt ?_⟩
        simp -dsimp (maxSteps:=999999) (disch:=omega) only[go_sem,simprocAttr, *]
        refine ⟨fun _ => by first | rfl | exact congrArg Option.isSome t2, evB_plain bo8 rfl rfl t2 hI1 ?_⟩
        simp -dsimp (maxSteps:=999999) (disch:=omega) only[go_sem,simprocAttr, *]
        refine ⟨fun _ => rfl, evB_plain bo10 rfl rfl t3 hso ?_⟩
        simp -dsimp (maxSteps:=999999) (disch:=omega) only[go_sem,simprocAttr, *]
        refine ⟨fun _ => by first | rfl | exact congrArg Option.isSome t4, evB_plain bo8 rfl rfl t4 hI2 ?_⟩
        repeat' (first | refine wz1 ?_ | refine wz2 ?_ | refine wz3 ?_ | refine wz4 ?_ | refine wz5 ?_ | refine wz6 ?_ | simp -dsimp (maxSteps:=999999) (disch:=omega) only[go_sem,simprocAttr, *] | ((first | refine wz8 (fun hh => ?_) (fun hh => ?_) | refine wz9 (fun hh => ?_) (fun hh => ?_) | refine wz7 (fun hh => ?_) (fun hh => ?_)) <;> (try replace hh := vqs hh) <;> (try (exfalso; first | exact hh | omega))))
        refine hR _ _ ⟨i + 1, by omega, gs, gs, gs, gs⟩ ?_
        simp -dsimp (maxSteps:=999999) (disch:=omega) only[go_sem,simprocAttr, *,natOf_int]
end Go.Proofs.W
end
