/- Texts that stand behind this claim, one after the other. -/
import Derived.Test.YthfbnjkijkbpcaaGreatDoorM6
import Derived.Test.YthfbnjkijkbpcaaGreatDoorM8
import Derived.Test.YthfbnjkijkbpcaaGreatDoorM7
/- Machines without free steps: words, and the longest match. -/
section
set_option maxHeartbeats 4000000
set_option linter.unusedVariables false
set_option linter.unusedSimpArgs false
namespace Go.Proofs.W
open Go Vm Go.Proofs.Zs7z

end Go.Proofs.W
end
/- The document's functions on machines without free steps. -/
section
set_option maxHeartbeats 4000000
set_option linter.unusedVariables false
set_option linter.unusedSimpArgs false
namespace Go.Proofs.W
open Go Vm Go.Proofs.Zs7z

end Go.Proofs.W
end
/- The longest match, in two ways; beginnings of words. -/
section
set_option maxHeartbeats 4000000
set_option linter.unusedVariables false
set_option linter.unusedSimpArgs false
namespace Go.Proofs.W
open Go Vm Go.Proofs.Zs7z

end Go.Proofs.W
end
/- Words: the state behind one, its rule. -/
section
set_option maxHeartbeats 4000000
set_option linter.unusedVariables false
set_option linter.unusedSimpArgs false
namespace Go.Proofs.W
open Go Vm Go.Proofs.Zs7z

end Go.Proofs.W
end
/- Machines without free steps, made of such with: what is made, in plain terms. -/
section
set_option maxHeartbeats 4000000
set_option linter.unusedVariables false
set_option linter.unusedSimpArgs false
namespace Go.Proofs.W
open Go Vm Go.Proofs.Zs7z

/-- where a set leads by a category -/
noncomputable def leadN (n : Nfa) (c : Int) (s : List Int) : List Int := clos n (stp n c s)
/-- a row, so far, and the sets then -/
noncomputable def rowTo (n : Nfa) (s : List Int) (ls : List (List Int)) : Nat → List Int × List (List Int)
  | 0 => ([], ls)
  | c + 1 => ((rowTo n s ls c).1 ++ [(addS (rowTo n s ls c).2 (leadN n c s)).1], (addS (rowTo n s ls c).2 (leadN n c s)).2)
noncomputable def runB (n : Nfa) : Nat → Nat → List (List Int) → List (List Int) → Option (List (List Int) × List (List Int))
  | 0, _, _, _ => none
  | k + 1, i, ls, nx => if i < ls.length then
      (if 200 < (rowTo n (ls.getD i []) ls 16).2.length then none else runB n k (i + 1) (rowTo n (ls.getD i []) ls 16).2 (nx ++ [(rowTo n (ls.getD i []) ls 16).1]))
    else some (ls, nx)
theorem clos_nil (n : Nfa) : clos n [] = [] := by
  rcases h : clos n [] with _ | ⟨x, l⟩
  · rfl
  · have hx : x ∈ clos n [] := by rw [h]; simp
    unfold clos at hx
    obtain ⟨i, h1, h2, h3⟩ := mem_listZ.1 hx
    rw [clo_iff] at h2
    exfalso
    clear h h3 hx h1
    induction h2 with
    | base h => simp [inS] at h
    | step _ _ ih => exact ih
/-- a set's number among sets -/
def Code (ls : List (List Int)) (x : Int) (s : List Int) : Prop := (s = [] ∧ x = -1) ∨ (s ≠ [] ∧ ∃ j : Nat, x = j ∧ ls[j]? = some s)
theorem code_add (ls : List (List Int)) (l : List Int) : Code (addS ls l).2 (addS ls l).1 l := by
  by_cases h : l = []
  · exact .inl ⟨h, by simp [addS, h]⟩
  · exact .inr ⟨h, addS_at h⟩
theorem Code.old {ls : List (List Int)} {x : Int} {s : List Int} (h : Code ls x s) {ls' : List (List Int)} (k : ∀ (j : Nat) q, ls[j]? = some q → ls'[j]? = some q) : Code ls' x s := by
  rcases h with h | ⟨h1, j, h2, h3⟩
  · exact .inl h
  · exact .inr ⟨h1, j, h2, k j s h3⟩
theorem addS_mem {ls : List (List Int)} {l q : List Int} (h : q ∈ (addS ls l).2) : q ∈ ls ∨ (q = l ∧ l ≠ []) := by
  unfold addS at h
  split at h
  · exact .inl h
  · rename_i hl
    split at h
    · exact .inl h
    · rcases List.mem_append.1 h with h | h
      · exact .inl h
      · exact .inr ⟨by simpa using h, hl⟩
theorem addS_len (ls : List (List Int)) (l : List Int) : ls.length ≤ (addS ls l).2.length ∧ (addS ls l).2.length ≤ ls.length + 1 := by
  unfold addS
  split
  · simp
  · split <;> simp
/-- a set of a machine's states, closed, of which there are some -/
def GoodS (n : Nfa) (q : List Int) : Prop := q ≠ [] ∧ ∃ l, q = clos n l
theorem rowTo_old (n : Nfa) (s : List Int) (ls : List (List Int)) : ∀ (c j : Nat) (q : List Int), ls[j]? = some q → (rowTo n s ls c).2[j]? = some q
  | 0, j, q, h => h
  | c + 1, j, q, h => addS_old (rowTo_old n s ls c j q h)
theorem rowTo_len (n : Nfa) (s : List Int) (ls : List (List Int)) : ∀ c, (rowTo n s ls c).1.length = c ∧ ls.length ≤ (rowTo n s ls c).2.length ∧ (rowTo n s ls c).2.length ≤ ls.length + c
  | 0 => ⟨rfl, Nat.le_refl _, Nat.le_refl _⟩
  | c + 1 => by
    have ih := rowTo_len n s ls c
    have := addS_len (rowTo n s ls c).2 (leadN n c s)
    refine ⟨by simp [rowTo, ih.1], ?_, ?_⟩
    · simp only [rowTo]; omega
    · simp only [rowTo]; omega
theorem rowTo_good {n : Nfa} {s : List Int} {ls : List (List Int)} (h : ∀ q ∈ ls, GoodS n q) : ∀ c, ∀ q ∈ (rowTo n s ls c).2, GoodS n q
  | 0, q, hq => h q hq
  | c + 1, q, hq => by
    rcases addS_mem hq with h1 | ⟨rfl, h2⟩
    · exact rowTo_good h c q h1
    · exact ⟨h2, _, rfl⟩
theorem rowTo_code (n : Nfa) (s : List Int) (ls : List (List Int)) : ∀ (c k : Nat), k < c → Code (rowTo n s ls c).2 ((rowTo n s ls c).1.getD k 0) (leadN n k s)
  | 0, k, h => by omega
  | c + 1, k, h => by
    have hl := (rowTo_len n s ls c).1
    by_cases e : k = c
    · subst e
      have : (rowTo n s ls (k + 1)).1.getD k 0 = (addS (rowTo n s ls k).2 (leadN n k s)).1 := by
        simp only [rowTo, List.getD_eq_getElem?_getD]
        rw [List.getElem?_append_right (by omega), hl]; simp
      rw [this]
      exact code_add _ _
    · have : (rowTo n s ls (c + 1)).1.getD k 0 = (rowTo n s ls c).1.getD k 0 := by
        simp only [rowTo, List.getD_eq_getElem?_getD]
        rw [List.getElem?_append_left (by omega)]
      rw [this]
      exact (rowTo_code n s ls c k (by omega)).old fun j q hq => addS_old hq
structure DoneI (n : Nfa) (i : Nat) (ls nx : List (List Int)) : Prop where
  len : nx.length = i
  le : i ≤ ls.length
  good : ∀ q ∈ ls, GoodS n q
  z : ls[0]? = some (clos n [0])
  row : ∀ j, j < i → (nx.getD j []).length = 16 ∧ ∀ k : Nat, k < 16 → Code ls ((nx.getD j []).getD k 0) (leadN n k (ls.getD j []))
theorem DoneI.step {n : Nfa} {i : Nat} {ls nx : List (List Int)} (h : DoneI n i ls nx) (hi : i < ls.length) : DoneI n (i + 1) (rowTo n (ls.getD i []) ls 16).2 (nx ++ [(rowTo n (ls.getD i []) ls 16).1]) := by
  have hold := rowTo_old n (ls.getD i []) ls 16
  have hlen := rowTo_len n (ls.getD i []) ls 16
  have same : ∀ j, j < ls.length → (rowTo n (ls.getD i []) ls 16).2.getD j [] = ls.getD j [] := fun j hj => by
    have := hold j ls[j] (List.getElem?_eq_getElem hj)
    rw [List.getD_eq_getElem?_getD, this, List.getD_eq_getElem?_getD, List.getElem?_eq_getElem hj]
  refine ⟨by simp [h.len], by omega, rowTo_good h.good 16, hold _ _ h.z, fun j hj => ?_⟩
  by_cases e : j = i
  · subst e
    have e1 : (nx ++ [(rowTo n (ls.getD j []) ls 16).1]).getD j [] = (rowTo n (ls.getD j []) ls 16).1 := by
      simp only [List.getD_eq_getElem?_getD]
      rw [List.getElem?_append_right (by rw [h.len]; omega), h.len]; simp
    rw [e1, same j hi]
    exact ⟨hlen.1, fun k hk => rowTo_code _ _ _ 16 k hk⟩
  · have e1 : (nx ++ [(rowTo n (ls.getD i []) ls 16).1]).getD j [] = nx.getD j [] := by
      simp only [List.getD_eq_getElem?_getD]
      rw [List.getElem?_append_left (by rw [h.len]; omega)]
    rw [e1, same j (by omega)]
    obtain ⟨g1, g2⟩ := h.row j (by omega)
    exact ⟨g1, fun k hk => (g2 k hk).old hold⟩
theorem runB_done {n : Nfa} : ∀ (k i : Nat) (ls nx ls' nx' : List (List Int)), DoneI n i ls nx → ls.length ≤ 200 → runB n k i ls nx = some (ls', nx') → DoneI n ls'.length ls' nx' ∧ ls'.length ≤ 200
  | 0, i, ls, nx, ls', nx', h, hl, hr => by simp [runB] at hr
  | k + 1, i, ls, nx, ls', nx', h, hl, hr => by
    rw [runB] at hr
    split at hr
    · rename_i hi
      split at hr
      · cases hr
      · exact runB_done k (i + 1) _ _ ls' nx' (h.step hi) (by omega) hr
    · cases hr
      have : i = ls.length := by have := h.le; omega
      subst this
      exact ⟨h, hl⟩
theorem done_zero {n : Nfa} (h : clos n [0] ≠ []) : DoneI n 0 [clos n [0]] [] :=
  ⟨rfl, by simp, fun q hq => by rw [List.mem_singleton.1 hq]; exact ⟨h, _, rfl⟩, rfl, fun j hj => by omega⟩
theorem clos_zero {n : Nfa} (hk : 1 ≤ n.set.length) : clos n [0] ≠ [] := by
  intro h
  have : (0 : Int) ∈ clos n [0] := by
    unfold clos
    exact mem_listZ.2 ⟨0, by omega, clo_iff.2 (.base ⟨by omega, by simp⟩), rfl⟩
  rw [h] at this
  cases this
/-- the machine -/
def mkDfa (n : Nfa) (ls nx : List (List Int)) : Dfa := ⟨nx, ls.map (endsZ n)⟩
theorem mk_ty {n : Nfa} {ls nx : List (List Int)} (h : DoneI n ls.length ls nx) : tyM (mkDfa n ls nx) := fun r hr => by
  obtain ⟨j, hj, rfl⟩ := List.mem_iff_getElem.1 hr
  have hj' : j < nx.length := hj
  have := (h.row j (by rw [← h.len]; exact hj)).1
  rw [List.getD_eq_getElem?_getD, List.getElem?_eq_getElem hj'] at this
  exact this
end Go.Proofs.W
end
/- More behind lists of one's own. -/
section
set_option maxHeartbeats 4000000
set_option linter.unusedVariables false
set_option linter.unusedSimpArgs false
namespace Go.Proofs.W
open Go Vm Go.Proofs.Zs7z

/-- more behind a list of one's own -/
theorem vecAt_appendL {t e : TypeId} {n w m : Nat} {z d y : D} {H H1 : Heap} {xs ys : List D} (he : elemT Tryz.prog t = some e) (hn : sizeT Tryz.prog e = some n) (hw : bytesT Tryz.prog e = some w) (hz : zeroT Tryz.prog e = some z) (hzn : z.cells.length = n) (hw0 : w ≠ 0)
    (h : VecAt m d H xs) (hl : H.length ≤ H1.length) (hk : ∀ r, r < H.length → hget H1 r = hget H r) (hadd : addedD H1 y = some (ys, H1)) (hy : ys ≠ []) (hys : headSize n ys = true) (hx : headSize n xs = true) (hm : (xs.length + ys.length) * w ≤ 140737488355328) :
    ∃ d' H', appendD Tryz.prog t H1 d y = some (d', H') ∧ VecAt m d' H' (xs ++ ys) ∧ Same m H H' := by
  have hye : ys.isEmpty = false := by simpa using hy
  obtain ⟨h0, ⟨rfl, rfl⟩ | ⟨h1, r, h2, h4, rfl, h3⟩⟩ := h
  · refine ⟨.vec H1.length 0 (0 + ys.length), H1 ++ [Ob.arr ([] ++ ys)], ?_, ⟨by simp; omega, .inr ⟨by simpa using hy, H1.length, by omega, by simp, by simp, ?_⟩⟩, ⟨by simp; omega, fun k hk' => ?_⟩⟩
    · simp only [appendD, he, hn, hw, hz, Option.bind_some, hadd, hzn]
      have hm' : ys.length * w ≤ 140737488355328 := by simpa using hm
      have h0s : headSize n ([] : List D) = true := rfl
      simp [hw0, hys, hye, h0s, mostBytes, hm']
    · rw [hget_app0]; rfl
    · rw [hget_app_lt (by omega), hk k (by omega)]
  · have hg : hget H1 r = .arr xs := by rw [hk r h4, h3]
    have hne : xs.isEmpty = false := by simpa using h1
    refine ⟨.vec H1.length 0 (xs.length + ys.length), H1.set r Ob.dead ++ [Ob.arr (xs ++ ys)], ?_, ⟨by simp; omega, .inr ⟨by simp [h1], H1.length, by omega, by simp, by simp, ?_⟩⟩, ⟨by simp; omega, fun k hk' => ?_⟩⟩
    · simp only [appendD, he, hn, hw, hz, Option.bind_some, hadd, hzn]
      simp [hw0, hys, hye, hg, hx, hne, hm, mostBytes]
    · have := hget_app0 (H := H1.set r Ob.dead) (L := [Ob.arr (xs ++ ys)])
      rw [List.length_set] at this
      rw [this]; rfl
    · rw [hget_app_lt (by simp; omega), hget_set_ne (by omega), hk k (by omega)]
theorem vecAt_elems {m : Nat} {d : D} {H : Heap} {xs : List D} (h : VecAt m d H xs) : Vm.elems H d = some xs := by
  obtain ⟨h0, ⟨rfl, rfl⟩ | ⟨h1, r, h2, h4, rfl, h3⟩⟩ := h
  · rfl
  · simp [Vm.elems, h3]
theorem add_is (H : Heap) (l : List Int) : addedD H (.sl false (l.map (.int .i64))) = some (l.map (.int .i64), H) := by
  simp only [addedD, elems, Option.bind_some, puresA]
  split
  · rfl
  · exact pures_strip (strip_ints l)
/-- numbers behind a list of one's own -/
theorem app_is {m : Nat} {d : D} {H : Heap} {xs : List Int} (h : VecAt m d H (xs.map (.int .i64))) (l : List Int) (hl : xs.length + l.length ≤ 1000000) : ∃ d' H', appendD Tryz.prog 26 H d (.sl false (l.map (.int .i64))) = some (d', H') ∧ VecAt m d' H' ((xs ++ l).map (.int .i64)) ∧ Same m H H' := by
  by_cases hn : l = []
  · subst hn
    refine ⟨d, H, ?_, by simpa using h, Same.refl⟩
    simp only [appendD, el26, sz3, by3, zr3, Option.bind_some, add_is]
    obtain ⟨h0, ⟨h1, rfl⟩ | ⟨h1, r, h2, h3, rfl, h4⟩⟩ := h
    · rfl
    · rfl
  · have := vecAt_appendL (t := 26) (H1 := H) (y := .sl false (l.map (.int .i64))) el26 sz3 by3 zr3 rfl (by decide) h (Nat.le_refl _) (fun r _ => rfl) (add_is H l) (by simpa using hn) (headInts l) (headInts xs) (by simp; omega)
    simpa using this
end Go.Proofs.W
end
/- A maker of machines without free steps: how it lies in memory; a set's number. -/
section
set_option maxHeartbeats 4000000
set_option linter.unusedVariables false
set_option linter.unusedSimpArgs false
namespace Go.Proofs.W
open Go Vm Go.Proofs.Zs7z

theorem add_two {H : Heap} {a b : D} (ha : strip a = some a) (hb : strip b = some b) : addedD (H ++ [.arr [a, b]]) (.vec H.length 0 2) = some ([a, b], H ++ [.arr [a, b]]) := by
  have : pures (H ++ [.arr [a, b]]) [a, b] = some ([a, b], H ++ [.arr [a, b]]) := pures_strip (by simp [stripL, ha, hb])
  simp [addedD, elems, hget_app0, hget_cons0, this, puresA, nilE_strip ha]
theorem bytesBack_of (s : List UInt8) : bytesBack (bytesOf s) = some s := by
  induction s with
  | nil => rfl
  | cons b s ih =>
    simp only [bytesOf, List.map_cons, bytesBack] at ih ⊢
    rw [ih]
    simp
theorem headBytes (s : List UInt8) : headSize 1 (bytesOf s) = true := by cases s <;> rfl
theorem keyS_app (s : Int) : ∀ (l : List Int), keyS (l ++ [s]) = keyS l ++ [UInt8.ofNat (s.toNat / 256), UInt8.ofNat (s.toNat % 256)]
  | [] => rfl
  | x :: l => by simp only [List.cons_append, keyS, keyS_app s l]
theorem keyS_len : ∀ l : List Int, (keyS l).length = 2 * l.length
  | [] => rfl
  | x :: l => by simp only [keyS, List.length_cons, keyS_len l]; omega
theorem bytes_app (a b : List UInt8) : bytesOf (a ++ b) = bytesOf a ++ bytesOf b := by simp [bytesOf]
theorem bytes_len (a : List UInt8) : (bytesOf a).length = a.length := by simp [bytesOf]
theorem ruleL_ends (n : Nfa) : ∀ (l : List Int) (o : Int), (∀ s ∈ l, 0 ≤ s ∧ s < n.rule.length) → ruleL (n.rule.map (.int .i64)) (l.map (.int .i64)) o = some (bestFrom o (l.map fun s => n.rule.getD s.toNat 0))
  | [], o, h => rfl
  | s :: l, o, h => by
    have hs := h s (by simp)
    obtain ⟨t, ht1, ht2⟩ := ex_at (l := n.rule) (i := s.toNat) 0 (by omega)
    have ih := ruleL_ends n l
    simp only [List.map_cons, ruleL, hs.1, if_true, List.getElem?_map, ht1, Option.map_some, bestFrom_cons, ht2]
    exact ih _ fun x hx => h x (by simp [hx])
/-- a maker: its machine with free steps, rows, rules, the map, sets -/
abbrev dkL (M rm : Nat) (ds : List D) : List D := .ptr M 0 0 :: .map rm :: ds
structure DkAt (M rm : Nat) (n : Nfa) (nx ls : List (List Int)) (ds : List D) (H : Heap) : Prop where
  ms : Ms M ds [nx.map rowD, (ls.map (endsZ n)).map (.int .i64), ls.map isD] H
  hM : hget H M = .arr [.agg [.sl false (n.free.map isD), .sl false (n.set.map (.int .u16)), .sl false (n.to.map (.int .i64)), .sl false (n.rule.map (.int .i64)), ds.getD 0 ud, ds.getD 1 ud, .map rm, ds.getD 2 ud]]
  hm : hget H rm = .map (ents 0 ls)
  rM : rm ≠ M
  ro : ∀ i, rm ∉ objsD (ds.getD i ud)
  rl : rm < H.length
theorem DkAt.keep {M rm : Nat} {n : Nfa} {nx ls : List (List Int)} {ds : List D} {H H' : Heap} (h : DkAt M rm n nx ls ds H) (hl : H.length ≤ H'.length) (hk : ∀ r, own (dkL M rm ds) r → hget H' r = hget H r) : DkAt M rm n nx ls ds H' :=
  ⟨⟨fun i hi => vec_keep (h.ms.v i hi) hl fun r hr => hk r ⟨i + 2, by simpa using hr⟩, h.ms.lenX, h.ms.ap, by have := h.ms.m; omega⟩, by rw [hk M ⟨0, by simp [objsD]⟩]; exact h.hM, by rw [hk rm ⟨1, by simp [objsD]⟩]; exact h.hm, h.rM, h.ro, by have := h.rl; omega⟩
theorem DkAt.lt {M rm : Nat} {n : Nfa} {nx ls : List (List Int)} {ds : List D} {H : Heap} (h : DkAt M rm n nx ls ds H) {r : Nat} (hr : own (dkL M rm ds) r) : r < H.length := by
  obtain ⟨k, hk⟩ := hr
  match k, hk with
  | 0, hk => have : r = M := by simpa [objsD] using hk
             subst this; exact h.ms.m
  | 1, hk => have : r = rm := by simpa [objsD] using hk
             subst this; exact h.rl
  | k + 2, hk => exact h.ms.lt (i := k) (by simpa using hk)
theorem ds_three {ds : List D} (h : 3 = ds.length) : ∃ a b c, ds = [a, b, c] := by
  match ds, h with
  | [a, b, c], _ => exact ⟨a, b, c, rfl⟩
theorem lk_some {H : Heap} {rm : Nat} {es : List (D × D)} {s : List UInt8} {i : Nat} {v : D} (hm : hget H rm = .map es) (hf : findE (.str s) es 0 = some (some (i, v))) : lookupD Tryz.prog 57 H (.map rm) (.str s) true = some (.tup [v, .bool true]) := by
  have hu : Tryz.prog.underlying 57 = some (.map 9 3) := un57
  have hk : keyOk Tryz.prog 9 (.str s) = true := by simp only [keyOk, un9]
  simp only [lookupD, hu, hk, Bool.true_eq_false, if_false, hm, hf, Option.bind_some, Option.map_some, if_true]
theorem lk_none {H : Heap} {rm : Nat} {es : List (D × D)} {s : List UInt8} (hm : hget H rm = .map es) (hf : findE (.str s) es 0 = some none) : lookupD Tryz.prog 57 H (.map rm) (.str s) true = some (.tup [.int .i64 0, .bool false]) := by
  have hu : Tryz.prog.underlying 57 = some (.map 9 3) := un57
  have hk : keyOk Tryz.prog 9 (.str s) = true := by simp only [keyOk, un9]
  have hz : zeroT Tryz.prog 3 = some (.int .i64 0) := zr3
  simp only [lookupD, hu, hk, Bool.true_eq_false, if_false, hm, hf, Option.bind_some, hz, Option.map_some, if_true]
theorem up_none {H : Heap} {rm : Nat} {es : List (D × D)} {s : List UInt8} {v : D} (hm : hget H rm = .map es) (hf : findE (.str s) es 0 = some none) : updateD Tryz.prog 57 H (.map rm) (.str s) v = some (H.set rm (.map (es ++ [(.str s, v)]))) := by
  have hu : Tryz.prog.underlying 57 = some (.map 9 3) := un57
  have hk : keyOk Tryz.prog 9 (.str s) = true := by simp only [keyOk, un9]
  simp only [updateD, hu, hk, Bool.true_eq_false, if_false, hm, hf, Option.map_some]
theorem headIs (ls : List (List Int)) : headSize 1 (ls.map isD) = true := by cases ls <;> rfl
theorem headRows (ls : List (List Int)) (h : ∀ r ∈ ls, r.length = 16) : headSize 16 (ls.map rowD) = true := by
  cases ls with
  | nil => rfl
  | cons r l => simp [headSize, rowD, D.cells, h r (by simp)]
theorem vec_len {d : D} {H : Heap} {xs : List D} (h : VecIs d H xs) {e : TypeId} (HH : Heap) : lenU (some (.slice e)) HH d = some xs.length := by
  rcases h with ⟨rfl, rfl⟩ | ⟨_, r, rfl, _, _⟩ <;> rfl
end Go.Proofs.W
end
/- A maker of machines without free steps: a set's number, walked. -/
section
set_option maxHeartbeats 4000000
set_option linter.unusedVariables false
set_option linter.unusedSimpArgs false
namespace Go.Proofs.W
open Go Vm Go.Proofs.Zs7z

theorem sh8' {s : Int} (h0 : 0 ≤ s) (h1 : s < 65536) : IntKind.u8.wrap (s.fdiv 256) = ((UInt8.ofNat (s.toNat / 256)).toNat : Int) := by
  have e : s.fdiv 256 = s / 256 := Int.fdiv_eq_ediv_of_nonneg s (by decide)
  have e2 : (UInt8.ofNat (s.toNat / 256)).toNat = s.toNat / 256 := by rw [UInt8.toNat_ofNat']; omega
  rw [e, e2, IntKind.wrap_u8]
  omega
theorem sh8q {s : Int} (h0 : 0 ≤ s) (h1 : s < 65536) : IntKind.u8.wrap (s.fdiv (2 ^ min 8 64)) = ((UInt8.ofNat (s.toNat / 256)).toNat : Int) := sh8' h0 h1
theorem lo8 {s : Int} (h0 : 0 ≤ s) (h1 : s < 65536) : IntKind.u8.wrap s = ((UInt8.ofNat (s.toNat % 256)).toNat : Int) := by
  have e2 : (UInt8.ofNat (s.toNat % 256)).toNat = s.toNat % 256 := by rw [UInt8.toNat_ofNat']; omega
  rw [e2, IntKind.wrap_u8]
  omega
theorem dstate_ok (M rm : Nat) (n : Nfa) (nx ls : List (List Int)) (ds : List D) (H : Heap) (l : List Int) (h : DkAt M rm n nx ls ds H) (hn : rightN n = true) (hl : ∀ s ∈ l, 0 ≤ s ∧ s < n.set.length) (hsm : ∀ q ∈ ls, small q) (hll : l.length ≤ 3300) (hls : ls.length ≤ 1000) :
    EvF Tryz.prog A 18 [.ptr M 0 0, isD l] H (fun d H' => d = .int .i64 (addS ls l).1 ∧ ∃ ds', DkAt M rm n nx (addS ls l).2 ds' H' ∧ Mv6 (dkL M rm ds) H (dkL M rm ds') H') (fun _ _ => False) := by
  have hrr := right_row hn
  have hsl : small l := fun s hs => by have := hl s hs; omega
  have ew : isD l = .sl false (l.map (.int .i64)) := rfl
  refine evF_inB (n := 78) (rs := [.tmp 4]) Tryz.func18 rfl rfl rfl rfl rfl rfl ?_
  by_cases hne : l = []
  · subst hne
    have e1 : (addS ls []).1 = -1 := by simp [addS]
    have e2 : (addS ls []).2 = ls := by simp [addS]
    rw [e1, e2]
    clear e1 e2 hsl hl
    repeat' (first | refine wz1 ?_ | refine wz2 ?_ | refine wz3 ?_ | refine wz4 ?_ | refine wz5 ?_ | refine wz6 ?_ | simp -dsimp (maxSteps:=999999) (disch:=omega) only[go_sem,simprocAttr, *] | ((first | refine wz8 (fun hh => ?_) (fun hh => ?_) | refine wz9 (fun hh => ?_) (fun hh => ?_) | refine wz7 (fun hh => ?_) (fun hh => ?_)) <;> (try replace hh := vqs hh) <;> (try (exfalso; first | exact hh | omega))))
    exact ⟨ds, h, Mv6.refl⟩
  have hpos : 0 < l.length := by cases l with | nil => exact absurd rfl hne | cons _ _ => simp
  repeat' (first | refine wz1 ?_ | refine wz2 ?_ | refine wz3 ?_ | refine wz4 ?_ | refine wz5 ?_ | refine wz6 ?_ | simp -dsimp (maxSteps:=999999) (disch:=omega) only[go_sem,simprocAttr, *] | ((first | refine wz8 (fun hh => ?_) (fun hh => ?_) | refine wz9 (fun hh => ?_) (fun hh => ?_) | refine wz7 (fun hh => ?_) (fun hh => ?_)) <;> (try replace hh := vqs hh) <;> (try (exfalso; first | exact hh | omega))))
  refine wpB_loop (fun e H1 => ∃ (j : Nat) (db : D), j ≤ l.length ∧ VecAt H.length db H1 (bytesOf (keyS (l.take j))) ∧ Same H.length H H1 ∧ e 0 = .ptr M 0 0 ∧ e 1 = isD l ∧ e 5 = db ∧ e 14 = isD l ∧ e 15 = .int .i64 l.length ∧ e 16 = .int .i64 j) (fun e H => l.length - natOf (e 16)) ?_ ?_
  · exact ⟨0, _, by omega, VecAt.nil (Nat.le_refl _), Same.refl, gs, gs, gs, gs, gs, gs⟩
  rintro e H1 ⟨j, db, hj, hv, hs, e0, e1, e5, e14, e15, e16⟩ R hR
  by_cases hb : j < l.length
  · obtain ⟨b0, b1⟩ := hsl l[j] (List.getElem_mem hb)
    have hx : (l.map (D.int .i64))[j]? = some (.int .i64 l[j]) := by simp [hb]
    have htk : keyS (l.take (j + 1)) = keyS (l.take j) ++ [UInt8.ofNat (l[j].toNat / 256), UInt8.ofNat (l[j].toNat % 256)] := by rw [take_succ' hb, keyS_app]
    have hkl : (bytesOf (keyS (l.take j))).length ≤ 6600 := by rw [bytes_len, keyS_len, List.length_take]; omega
    have ha := vecAt_appendL (t := 87) (H1 := H1 ++ [.arr [.int .u8 ((UInt8.ofNat (l[j].toNat / 256)).toNat : Int), .int .u8 ((UInt8.ofNat (l[j].toNat % 256)).toNat : Int)]]) el87 sz5 by5 zr5 rfl (by decide) hv (by simp) (fun r hr => hget_app_lt hr) (add_two rfl rfl) (by simp) rfl (headBytes _) (by simp; omega)
    rw [show bytesOf (keyS (l.take j)) ++ [D.int .u8 ((UInt8.ofNat (l[j].toNat / 256)).toNat : Int), D.int .u8 ((UInt8.ofNat (l[j].toNat % 256)).toNat : Int)] = bytesOf (keyS (l.take (j + 1))) by rw [htk, bytes_app]; rfl, ← sh8q b0 b1, ← lo8 b0 b1] at ha
    obtain ⟨d', H2, ha, hv2, hs2⟩ := ha
    have hs3 := hs.trans hs2
    clear hs2 hv htk hsl hl hsm h hrr
    generalize l[j] = x at *
    repeat' (first | refine wz1 ?_ | refine wz2 ?_ | refine wz3 ?_ | refine wz4 ?_ | refine wz5 ?_ | refine wz6 ?_ | simp -dsimp (maxSteps:=999999) (disch:=omega) only[go_sem,simprocAttr, *] | ((first | refine wz8 (fun hh => ?_) (fun hh => ?_) | refine wz9 (fun hh => ?_) (fun hh => ?_) | refine wz7 (fun hh => ?_) (fun hh => ?_)) <;> (try replace hh := vqs hh) <;> (try (exfalso; first | exact hh | omega))))
    refine hR _ _ ⟨j + 1, d', by omega, hv2, hs3, gs, gs, gs, gs, gs, gs⟩ ?_
    simp -dsimp (maxSteps:=999999) (disch:=omega) only[go_sem,simprocAttr, *,natOf_int]
  rw [List.take_of_length_le (by omega)] at hv
  have hel := vecAt_elems hv
  have hbb := bytesBack_of (keyS l)
  have hk : DkAt M rm n nx ls ds H1 := h.keep hs.1 fun r hr => hs.2 r (h.lt hr)
  have hmv : Mv6 (dkL M rm ds) H (dkL M rm ds) H1 := ⟨fun r hr _ => hs.2 r hr, hs.1, fun _ h => .inl h⟩
  have hf := find_ents hsl ls 0 0 hsm
  clear hv hs h
  cases hp : placeS l 0 ls with
  | some j =>
    rw [hp] at hf
    simp only [Option.map_some] at hf
    have hlk := lk_some hk.hm hf
    have e1 : addS ls l = ((j : Int), ls) := by simp [addS, hne, hp]
    rw [e1]
    have hM := hk.hM
    clear hf hp e1
    repeat' (first | refine wz1 ?_ | refine wz2 ?_ | refine wz3 ?_ | refine wz4 ?_ | refine wz5 ?_ | refine wz6 ?_ | simp -dsimp (maxSteps:=999999) (disch:=omega) only[go_sem,simprocAttr, *] | ((first | refine wz8 (fun hh => ?_) (fun hh => ?_) | refine wz9 (fun hh => ?_) (fun hh => ?_) | refine wz7 (fun hh => ?_) (fun hh => ?_)) <;> (try replace hh := vqs hh) <;> (try (exfalso; first | exact hh | omega))))
    exact ⟨ds, hk, hmv⟩
  | none =>
    rw [hp] at hf
    simp only [Option.map_none] at hf
    have hlk := lk_none hk.hm hf
    have hup := up_none (v := .int .i64 ls.length) hk.hm hf
    have e1 : addS ls l = ((ls.length : Int), ls ++ [l]) := by simp [addS, hne, hp]
    have e2 := ents_app ls 0 l
    rw [Nat.zero_add] at e2
    rw [e1]
    rw [← e2] at hup
    obtain ⟨dN, dR, dS, rfl⟩ := ds_three hk.ms.lenX
    have hM := hk.hM
    simp only [List.getD_cons_zero, List.getD_cons_succ] at hM
    have hlen := fun HH => vec_len (e := 26) (hk.ms.v 2 (by simp)) HH
    simp only [List.getD_cons_zero, List.getD_cons_succ, List.length_map] at hlen
    have g1 : Ms M [dN, dR, dS] [nx.map rowD, (ls.map (endsZ n)).map (.int .i64), ls.map isD] (H1.set rm (.map (ents 0 (ls ++ [l])))) :=
      ⟨fun i hi => vec_keep (hk.ms.v i hi) (by simp) fun r hr => hget_set_ne (fun e => hk.ro i (e ▸ hr)), hk.ms.lenX, hk.ms.ap, by simpa using hk.ms.m⟩
    have g2 : hget (H1.set rm (.map (ents 0 (ls ++ [l])))) M = _ := (hget_set_ne hk.rM).trans hM
    have g3 : hget (H1.set rm (.map (ents 0 (ls ++ [l])))) rm = .map (ents 0 (ls ++ [l])) := hget_set_eq hk.rl
    have g4 : (H1.set rm (.map (ents 0 (ls ++ [l])))).length = H1.length := by simp
    have g5 : ∀ r, r ≠ rm → hget (H1.set rm (.map (ents 0 (ls ++ [l])))) r = hget H1 r := fun r h => hget_set_ne (Ne.symm h)
    generalize hG2 : H1.set rm (.map (ents 0 (ls ++ [l]))) = H2 at *
    obtain ⟨d3, H3, a3, m3, M3, l3, k3, f3, o1, o2, o3⟩ := g1.app (p := 2) (by simp) (H1 := H2 ++ [.arr [.sl false (l.map (.int .i64))]]) el50 sz26 by26 zr26 rfl (by decide) (by simp) (fun r hr => hget_app_lt hr) (add_new (.inl (strip_is l))) rfl (headIs ls) (by simp; omega)
    rw [g2] at M3
    simp only [List.set_cons_zero, List.set_cons_succ, List.getD_cons_zero, List.getD_cons_succ] at m3 a3 k3
    have w3 := m3.m
    have c3 : hget (H3.set M (.arr [.agg [.sl false (n.free.map isD), .sl false (n.set.map (.int .u16)), .sl false (n.to.map (.int .i64)), .sl false (n.rule.map (.int .i64)), dN, dR, .map rm, d3]])) M = .arr [.agg [.sl false (n.free.map isD), .sl false (n.set.map (.int .u16)), .sl false (n.to.map (.int .i64)), .sl false (n.rule.map (.int .i64)), dN, dR, .map rm, d3]] := hget_set_eq w3
    have e3 : (H3.set M (.arr [.agg [.sl false (n.free.map isD), .sl false (n.set.map (.int .u16)), .sl false (n.to.map (.int .i64)), .sl false (n.rule.map (.int .i64)), dN, dR, .map rm, d3]])).length = H3.length := by simp
    have z3 : ∀ r, r ≠ M → hget (H3.set M (.arr [.agg [.sl false (n.free.map isD), .sl false (n.set.map (.int .u16)), .sl false (n.to.map (.int .i64)), .sl false (n.rule.map (.int .i64)), dN, dR, .map rm, d3]])) r = hget H3 r := fun r h => hget_set_ne (Ne.symm h)
    replace m3 := m3.setM (.arr [.agg [.sl false (n.free.map isD), .sl false (n.set.map (.int .u16)), .sl false (n.to.map (.int .i64)), .sl false (n.rule.map (.int .i64)), dN, dR, .map rm, d3]])
    generalize hG3 : H3.set M (.arr [.agg [.sl false (n.free.map isD), .sl false (n.set.map (.int .u16)), .sl false (n.to.map (.int .i64)), .sl false (n.rule.map (.int .i64)), dN, dR, .map rm, d3]]) = J3 at m3 c3 e3 z3
    have hru : ruleG [.ptr M 0 0, .sl false (l.map (.int .i64))] (([D.ptr M 0 0, .sl false (l.map (.int .i64))].flatMap objsD).map (hget J3)) = some (.int .i64 (endsZ n l)) := by
      have e := ruleL_ends n l (-1) (fun s hs => by have := hl s hs; omega)
      have e0 : ([D.ptr M 0 0, .sl false (l.map (.int .i64))].flatMap objsD).map (hget J3) = [hget J3 M] := rfl
      rw [e0, c3]
      simp only [ruleG]
      rw [if_pos (by simp; omega), e]; rfl
    obtain ⟨d4, H4, a4, m4, M4, l4, k4, f4, p1, p2, p3⟩ := m3.app (p := 1) (by simp) (H1 := J3) (y := .sl false [.int .i64 (endsZ n l)]) el26 sz3 by3 zr3 rfl (by decide) (Nat.le_refl _) (fun r hr => rfl) (add_lit rfl) rfl (headInts _) (by simp; omega)
    rw [c3] at M4
    simp only [List.set_cons_zero, List.set_cons_succ, List.getD_cons_zero, List.getD_cons_succ] at m4 a4 k4
    have w4 := m4.m
    have hend : DkAt M rm n nx (ls ++ [l]) [dN, d4, d3] (H4.set M (.arr [.agg [.sl false (n.free.map isD), .sl false (n.set.map (.int .u16)), .sl false (n.to.map (.int .i64)), .sl false (n.rule.map (.int .i64)), dN, d4, .map rm, d3]])) ∧ Mv6 (dkL M rm [dN, dR, dS]) H (dkL M rm [dN, d4, d3]) (H4.set M (.arr [.agg [.sl false (n.free.map isD), .sl false (n.set.map (.int .u16)), .sl false (n.to.map (.int .i64)), .sl false (n.rule.map (.int .i64)), dN, d4, .map rm, d3]])) := by
      have hrl := hk.rl
      simp only [List.length_append, List.length_cons, List.length_nil] at l3
      have ro : ∀ i, rm ∉ objsD ([dN, d4, d3].getD i ud) := fun i hi => by
        match i, hi with
        | 0, hi => exact hk.ro 0 hi
        | 1, hi => have := f4 rm (by simpa using hi); omega
        | 2, hi => have := f3 rm (by simpa using hi); omega
        | i + 3, hi => simp [ud, objsD] at hi
      refine ⟨⟨by simpa using m4.setM _, by rw [hget_set_eq w4]; rfl, ?_, hk.rM, ro, by simp; omega⟩, hmv.trans ⟨fun r hr ho => ?_, by simp; omega, fun r ho => ?_⟩⟩
      · rw [hget_set_ne (Ne.symm hk.rM), k4 rm (by omega) (hk.ro 1), z3 rm hk.rM, k3 rm (by omega) (hk.ro 2), g3]
      · have h0 : r ≠ M := fun e => ho ⟨0, by simp [objsD, e]⟩
        have h1 : r ≠ rm := fun e => ho ⟨1, by simp [objsD, e]⟩
        have h2 : r ∉ objsD dR := fun e => ho ⟨3, e⟩
        have h3 : r ∉ objsD dS := fun e => ho ⟨4, e⟩
        rw [hget_set_ne (Ne.symm h0), k4 r (by omega) h2, z3 r h0, k3 r (by omega) h3, g5 r h1]
      · obtain ⟨k, hk'⟩ := ho
        match k, hk' with
        | 0, hk' => exact .inl ⟨0, hk'⟩
        | 1, hk' => exact .inl ⟨1, hk'⟩
        | 2, hk' => exact .inl ⟨2, hk'⟩
        | 3, hk' => have := f4 r (by simpa using hk'); exact .inr (by omega)
        | 4, hk' => have := f3 r (by simpa using hk'); exact .inr (by omega)
        | k + 5, hk' => simp [ud, objsD] at hk'
    clear m3 m4 k3 k4 f3 f4 e3 z3 l3 l4 w3 w4 g1 g3 g4 g5 e1 e2 hf hp hmv hk hl hsl hsm hrr
    repeat' (first | refine wz1 ?_ | refine wz2 ?_ | refine wz3 ?_ | refine wz4 ?_ | refine wz5 ?_ | refine wz6 ?_ | simp -dsimp (maxSteps:=999999) (disch:=omega) only[go_sem,simprocAttr, *] | ((first | refine wz8 (fun hh => ?_) (fun hh => ?_) | refine wz9 (fun hh => ?_) (fun hh => ?_) | refine wz7 (fun hh => ?_) (fun hh => ?_)) <;> (try replace hh := vqs hh) <;> (try (exfalso; first | exact hh | omega))))
    refine wpB_regionXL (prs := []) (by kernel_rfl) rfl (by kernel_rfl) ?_; simp -dsimp (maxSteps:=999999) (disch:=omega) only[go_sem,simprocAttr, *]
    refine ⟨fun h => Bool.noConfusion (show false = true from h), evB_rd (g := ruleG) bo38 rfl hru ?_⟩
    clear hru
    repeat' (first | refine wz1 ?_ | refine wz2 ?_ | refine wz3 ?_ | refine wz4 ?_ | refine wz5 ?_ | refine wz6 ?_ | simp -dsimp (maxSteps:=999999) (disch:=omega) only[go_sem,simprocAttr, *] | ((first | refine wz8 (fun hh => ?_) (fun hh => ?_) | refine wz9 (fun hh => ?_) (fun hh => ?_) | refine wz7 (fun hh => ?_) (fun hh => ?_)) <;> (try replace hh := vqs hh) <;> (try (exfalso; first | exact hh | omega))))
    refine ⟨rfl, ?_⟩
    repeat' (first | refine wz1 ?_ | refine wz2 ?_ | refine wz3 ?_ | refine wz4 ?_ | refine wz5 ?_ | refine wz6 ?_ | simp -dsimp (maxSteps:=999999) (disch:=omega) only[go_sem,simprocAttr, *] | ((first | refine wz8 (fun hh => ?_) (fun hh => ?_) | refine wz9 (fun hh => ?_) (fun hh => ?_) | refine wz7 (fun hh => ?_) (fun hh => ?_)) <;> (try replace hh := vqs hh) <;> (try (exfalso; first | exact hh | omega))))
    exact ⟨_, hend⟩
end Go.Proofs.W
end
/- The machine without free steps of expressions, walked. -/
section
set_option maxHeartbeats 4000000
set_option linter.unusedVariables false
set_option linter.unusedSimpArgs false
namespace Go.Proofs.W
open Go Vm Go.Proofs.Zs7z

theorem strip_rxsD' (l : List Rx) : stripL [rxsD l] = some [rxsD l] := strip1 (by simp [rxsD, strip, strip_rxs])
noncomputable def dbuild (l : List Rx) : Dfa × Int :=
  match buildN l with
  | none => (⟨[], []⟩, 1)
  | some n => match runB n 202 0 [clos n [0]] [] with
    | none => (⟨[], []⟩, 7)
    | some (ls, nx) => (mkDfa n ls nx, 0)
def dbD (x : Dfa × Int) : D := .tup [dfaD x.1, .int .i64 x.2]
theorem out_dk {dN dR : D} {H : Heap} {nx : List (List Int)} {rl : List Int} (hN : VecIs dN H (nx.map rowD)) (hR : VecIs dR H (rl.map (.int .i64))) (e : Int) : outPure H (.tup [.agg [dN, dR], .int .i64 e]) = some (dbD (⟨nx, rl⟩, e)) := by
  have vN := vecIs_a hN
  have vR := vecIs_a hR
  have hz : ∀ {d : D} {xs : List D}, VecA d H xs → strip d = none ∨ (d = .sl true [] ∧ xs = []) := fun {d xs} h => by
    rcases h with ⟨h1, h2⟩ | ⟨r, h1, _⟩
    · exact .inr ⟨h2, h1⟩
    · exact .inl (by rw [h1]; rfl)
  by_cases hn : stripL [dN, dR] = none
  · obtain ⟨H1, p1, s1, l1⟩ := pur_plainA (k := 2) vN (strip_rows nx)
    obtain ⟨H2, p2, s2, l2⟩ := pur_plainA (k := 2) (vR.soft s1 l1) (strip_ints rl)
    have hnone2 : stripL [D.agg [dN, dR], .int .i64 e] = none := by rw [stripL, strip, hn]; rfl
    unfold outPure deepest
    rw [pur_tup hnone2]
    simp only [purL]
    rw [pur_agg' hn]
    simp only [purL, p1, p2, Option.bind_some, Option.map_some]
    rw [pur_strip (show strip (.int .i64 e) = some (.int .i64 e) from rfl)]
    rfl
  · rcases hz vN with h1 | ⟨rfl, h1⟩
    · exact absurd (by simp [stripL, h1]) hn
    · rcases hz vR with h2 | ⟨rfl, h2⟩
      · exact absurd (by simp [stripL, h2, strip]) hn
      · have e1 : nx = [] := by simpa using h1
        have e2 : rl = [] := by simpa using h2
        subst e1; subst e2
        rfl
theorem stepN_eq {n : Nfa} (hn : rightN n = true) (c : Int) (l : List Int) : stepN n c l = stp n c l := by rw [stepN, if_pos hn]
theorem closeN_eq {n : Nfa} (hn : rightN n = true) (l : List Int) : closeN n l = clos n l := by rw [closeN, if_pos hn]
/-- a row, filled so far -/
def rowZ (r : List Int) (j : Nat) : List Int := r ++ List.replicate (16 - j) 0
theorem rowZ_len {r : List Int} {j : Nat} (h : r.length = j) (hj : j ≤ 16) : (rowZ r j).length = 16 := by simp [rowZ, h]; omega
theorem rowZ_set {r : List Int} {j : Nat} (h : r.length = j) (hj : j < 16) (x : Int) : (rowZ r j).take j ++ x :: (rowZ r j).drop (j + 1) = rowZ (r ++ [x]) (j + 1) := by
  subst h
  unfold rowZ
  rw [List.take_append_of_le_length (Nat.le_refl _), List.take_length, List.drop_append, List.drop_of_length_le (by omega)]
  simp only [List.nil_append, List.drop_replicate, List.append_assoc, List.cons_append]
  congr 3
  omega
theorem small_good {n : Nfa} (hn : rightN n = true) {q : List Int} (h : GoodS n q) : small q := fun s hs => by
  obtain ⟨_, l, rfl⟩ := h
  have := clos_in hs
  have := right_row hn
  omega
theorem zrN7 : zeroT Tryz.prog 53 = some (.agg [.sl true [], .sl true [], .sl true [], .sl true []]) := by kernel_rfl
theorem zrD7 : zeroT Tryz.prog 28 = some (.agg [.sl true [], .sl true []]) := by kernel_rfl
theorem zrR7 : zeroT Tryz.prog 62 = some (rowD (rowZ [] 0)) := by kernel_rfl
theorem zrM7 : zeroT Tryz.prog 59 = some (.agg [.sl true [], .sl true [], .sl true [], .sl true [], .sl true [], .sl true [], .nilm, .sl true []]) := by kernel_rfl
theorem not_own0 {k : Nat} (hk : k ≠ 2 ∧ k ≠ 3) : ¬ own (dkL 3 2 [.sl true [], .sl true [], .sl true []]) k := by
  rintro ⟨i, hi⟩
  match i, hi with
  | 0, hi => have : k = 3 := by simpa [objsD] using hi
             omega
  | 1, hi => have : k = 2 := by simpa [objsD] using hi
             omega
  | 2, hi => cases hi
  | 3, hi => cases hi
  | 4, hi => cases hi
  | i + 5, hi => simp [ud, objsD] at hi
theorem dk_zero (n : Nfa) (L : Heap) (a b : Ob) : DkAt 3 2 n [] [] [.sl true [], .sl true [], .sl true []] (a :: b :: .map [] :: .arr [.agg [.sl false (n.free.map isD), .sl false (n.set.map (.int .u16)), .sl false (n.to.map (.int .i64)), .sl false (n.rule.map (.int .i64)), .sl true [], .sl true [], .map 2, .sl true []]] :: L) := by
  refine ⟨⟨fun i hi => ?_, rfl, fun i j hij r hi hj => ?_, by simp⟩, rfl, rfl, by omega, fun i hi => ?_, by simp⟩
  · match i, hi with
    | 0, _ => exact VecIs.nil
    | 1, _ => exact VecIs.nil
    | 2, _ => exact VecIs.nil
  · match i, j with
    | 0, 0 => exact hij rfl
    | 0, 1 => cases hj
    | 0, 2 => cases hj
    | 0, 3 => cases hj
    | 0, j + 4 => simp [ud, objsD] at hj
    | 1, _ => cases hi
    | 2, _ => cases hi
    | 3, _ => cases hi
    | i + 4, _ => simp [ud, objsD] at hi
  · match i, hi with
    | 0, hi => cases hi
    | 1, hi => cases hi
    | 2, hi => cases hi
    | i + 3, hi => simp [ud, objsD] at hi
theorem mkMap7 (H : Heap) : makeMapD Tryz.prog 57 none H = some (.map H.length, H ++ [.map []]) := by
  simp only [makeMapD, un57]
theorem bdD0 : buildD Tryz.prog 28 [] = some (.agg [.sl true [], .sl true []]) := by kernel_rfl
theorem bdM7 (n : Nfa) : buildD Tryz.prog 59 [(0, nfaD n), (2, D.map 2)] = some (.agg [.sl false (n.free.map isD), .sl false (n.set.map (.int .u16)), .sl false (n.to.map (.int .i64)), .sl false (n.rule.map (.int .i64)), .sl true [], .sl true [], .map 2, .sl true []]) := by kernel_rfl
set_option maxRecDepth 20000 in
theorem dbuild_ok (l : List Rx) (hl : l.length ≤ 16 → ∀ r ∈ l, okR r) (hll : l.length ≤ 100000) : PureF Tryz.prog A 6 [rxsD l] (dbD (dbuild l)) := by
  have hB := build_okS l hl hll
  refine evF_inB (n := 80) (rs := [.cell 2 28, .tmp 3]) Tryz.func6 rfl rfl rfl rfl rfl rfl ?_
  repeat' (first | refine wz1 ?_ | refine wz2 ?_ | refine wz3 ?_ | refine wz4 ?_ | refine wz5 ?_ | refine wz6 ?_ | simp -dsimp (maxSteps:=999999) (disch:=omega) only[go_sem,simprocAttr, *,zrN7, zrD7] | ((first | refine wz8 (fun hh => ?_) (fun hh => ?_) | refine wz9 (fun hh => ?_) (fun hh => ?_) | refine wpB_cond (by simp -dsimp (maxSteps:=999999) (disch:=omega) only[go_sem,simprocAttr, *,zrN7, zrD7]; exact rfl) (fun hh => ?_) (fun hh => ?_)) <;> (try replace hh := vqs hh) <;> (try (exfalso; first | exact hh | omega))))
  refine evB_plain bo17 rfl rfl (strip_rxsD' l) hB ?_
  unfold dbuild
  cases hb : buildN l with
  | none =>
    have a1 := nfa_noTup emptyN
    have a2 : (nfaD emptyN).cells = [.sl false (emptyN.free.map isD), .sl false (emptyN.set.map (.int .u16)), isD emptyN.to, isD emptyN.rule] := rfl
    have a3 := nfa_aggQ emptyN
    repeat' (first | refine wz1 ?_ | refine wz2 ?_ | refine wz3 ?_ | refine wz4 ?_ | refine wz5 ?_ | refine wz6 ?_ | simp -dsimp (maxSteps:=999999) (disch:=omega) only[go_sem,simprocAttr, *,builtD, zrN7, zrD7, bdD0] | ((first | refine wz8 (fun hh => ?_) (fun hh => ?_) | refine wz9 (fun hh => ?_) (fun hh => ?_) | refine wpB_cond (by simp -dsimp (maxSteps:=999999) (disch:=omega) only[go_sem,simprocAttr, *,builtD, zrN7, zrD7, bdD0]; exact rfl) (fun hh => ?_) (fun hh => ?_)) <;> (try replace hh := vqs hh) <;> (try (exfalso; first | exact hh | omega))))
    exact outPure_strip rfl
  | some n =>
    obtain ⟨-, g2, g3, g4⟩ := build_right hb
    have a1 := nfa_noTup n
    have a2 : (nfaD n).cells = [.sl false (n.free.map isD), .sl false (n.set.map (.int .u16)), .sl false (n.to.map (.int .i64)), .sl false (n.rule.map (.int .i64))] := rfl
    have a3 := nfa_aggQ n
    have hC0 := close_ok n [0] g2 (by simp)
    rw [closeN_eq g3] at hC0
    have hrr := right_row g3
    clear hB hl hb
    simp only
    generalize hG : runB n 202 0 [clos n [0]] [] = G
    replace hG : Hid (runB n 202 0 [clos n [0]] [] = G) := hG
    repeat' (first | refine wz1 ?_ | refine wz2 ?_ | refine wz3 ?_ | refine wz4 ?_ | refine wz5 ?_ | refine wz6 ?_ | simp -dsimp (maxSteps:=999999) (disch:=omega) only[go_sem,simprocAttr, *,builtD, zrN7, zrD7, zrM7, mkMap7, bdM7] | ((first | refine wz8 (fun hh => ?_) (fun hh => ?_) | refine wz9 (fun hh => ?_) (fun hh => ?_) | refine wpB_cond (by simp -dsimp (maxSteps:=999999) (disch:=omega) only[go_sem,simprocAttr, *,builtD, zrN7, zrD7, zrM7, mkMap7, bdM7]; exact rfl) (fun hh => ?_) (fun hh => ?_)) <;> (try replace hh := vqs hh) <;> (try (exfalso; first | exact hh | omega))))
    refine evB_pureK bo19 rfl rfl (pures_one (H := [Ob.arr [D.agg [D.sl true [], D.sl true []]], Ob.arr [nfaD n], Ob.map [], Ob.arr [.agg [.sl false (n.free.map isD), .sl false (n.set.map (.int .u16)), .sl false (n.to.map (.int .i64)), .sl false (n.rule.map (.int .i64)), .sl true [], .sl true [], .map 2, .sl true []]]]) (strip_nfa n) rfl rfl) hC0 ?_
    intro H1 hH1
    obtain ⟨ob, rfl⟩ : ∃ ob, H1 = [Ob.arr [D.agg [D.sl true [], D.sl true []]], Ob.arr [nfaD n], Ob.map [], Ob.arr [.agg [.sl false (n.free.map isD), .sl false (n.set.map (.int .u16)), .sl false (n.to.map (.int .i64)), .sl false (n.rule.map (.int .i64)), .sl true [], .sl true [], .map 2, .sl true []]], ob] := by
      rcases hH1 with rfl | rfl <;> exact ⟨_, rfl⟩
    clear hH1 hC0
    have hz := clos_zero (n := n) (by omega)
    have hS := dstate_ok 3 2 n [] [] _ _ (clos n [0]) (dk_zero n [ob] (Ob.arr [D.agg [D.sl true [], D.sl true []]]) (Ob.arr [nfaD n])) g3 (fun s hs => clos_in hs) (by simp) (by have := clos_len n [0]; omega) (by simp)
    have hfst : addS [] (clos n [0]) = (0, [clos n [0]]) := by simp [addS, hz, placeS]
    rw [hfst] at hS
    repeat' (first | refine wz1 ?_ | refine wz2 ?_ | refine wz3 ?_ | refine wz4 ?_ | refine wz5 ?_ | refine wz6 ?_ | simp -dsimp (maxSteps:=999999) (disch:=omega) only[go_sem,simprocAttr, *] | ((first | refine wz8 (fun hh => ?_) (fun hh => ?_) | refine wz9 (fun hh => ?_) (fun hh => ?_) | refine wz7 (fun hh => ?_) (fun hh => ?_)) <;> (try replace hh := vqs hh) <;> (try (exfalso; first | exact hh | omega))))
    refine evB_state bo18 rfl rfl hS ?_ (fun _ _ h => h.elim)
    rintro _ H1 ⟨rfl, ds1, hd1, hv1⟩
    have hI := done_zero hz
    have h01 : hget H1 0 = .arr [.agg [.sl true [], .sl true []]] := by rw [hv1.keep 0 (by simp) (not_own0 (by omega))]; rfl
    have h11 : hget H1 1 = .arr [nfaD n] := by rw [hv1.keep 1 (by simp) (not_own0 (by omega))]; rfl
    have hn0 : ¬ own (dkL 3 2 ds1) 0 := fun ho => by
      rcases hv1.ow 0 ho with h | h
      · exact not_own0 (by omega) h
      · simp at h
    have hn1 : ¬ own (dkL 3 2 ds1) 1 := fun ho => by
      rcases hv1.ow 1 ho with h | h
      · exact not_own0 (by omega) h
      · simp at h
    clear hv1 hS hfst
    repeat' (first | refine wz1 ?_ | refine wz2 ?_ | refine wz3 ?_ | refine wz4 ?_ | refine wz5 ?_ | refine wz6 ?_ | simp -dsimp (maxSteps:=999999) (disch:=omega) only[go_sem,simprocAttr, *] | ((first | refine wz8 (fun hh => ?_) (fun hh => ?_) | refine wz9 (fun hh => ?_) (fun hh => ?_) | refine wz7 (fun hh => ?_) (fun hh => ?_)) <;> (try replace hh := vqs hh) <;> (try (exfalso; first | exact hh | omega))))
    refine wpB_loop (fun e Hi => ∃ (k i : Nat) (ls nx : List (List Int)) (ds : List D), k + i = 202 ∧ DoneI n i ls nx ∧ ls.length ≤ 200 ∧ DkAt 3 2 n nx ls ds Hi ∧ hget Hi 0 = .arr [.agg [.sl true [], .sl true []]] ∧ hget Hi 1 = .arr [nfaD n] ∧ ¬ own (dkL 3 2 ds) 0 ∧ ¬ own (dkL 3 2 ds) 1 ∧ G = runB n k i ls nx ∧ e 2 = .ptr 0 0 0 ∧ e 4 = .ptr 1 0 0 ∧ e 6 = .ptr 3 0 0 ∧ e 7 = .int .i64 i) (fun e H => 202 - natOf (e 7)) ?_ ?_
    · exact ⟨202, 0, _, _, ds1, by omega, hI, by simp, hd1, h01, h11, hn0, hn1, Eq.symm hG, gs, gs, gs, gs⟩
    clear hG hI hd1 h01 h11 hn0 hn1 hz
    rintro e Hi ⟨k, i, ls, nx, ds, hk, hI, hls, hd, h0, h1, hn0, hn1, hG, e2, e4, e6, e7⟩ R hR
    obtain ⟨k, rfl⟩ : ∃ k', k = k' + 1 := ⟨k - 1, by have := hI.le; omega⟩
    obtain ⟨dN, dR, dS, rfl⟩ := ds_three hd.ms.lenX
    have hM := hd.hM
    simp only [List.getD_cons_zero, List.getD_cons_succ] at hM
    have hlen := fun HH => vec_len (e := 26) (hd.ms.v 2 (by simp)) HH
    simp only [List.getD_cons_zero, List.getD_cons_succ, List.length_map] at hlen
    rw [runB] at hG
    by_cases hb : i < ls.length
    case neg =>
      rw [if_neg hb] at hG
      subst hG
      have hvN := hd.ms.v 0 (by simp)
      have hvR := hd.ms.v 1 (by simp)
      simp only [List.getD_cons_zero, List.getD_cons_succ] at hvN hvR
      have hl0 := lt_of_hget h0
      have k1 : ∀ ob, VecIs dN (Hi.set 0 ob) (nx.map rowD) := fun ob => vec_keep hvN (by simp) fun r hr => hget_set_ne fun e => hn0 (e ▸ ⟨2, by simpa using hr⟩)
      have k2 : ∀ ob, VecIs dR (Hi.set 0 ob) ((ls.map (endsZ n)).map (.int .i64)) := fun ob => vec_keep hvR (by simp) fun r hr => hget_set_ne fun e => hn0 (e ▸ ⟨3, by simpa using hr⟩)
      have hout := fun ob => out_dk (k1 ob) (k2 ob) 0
      clear k1 k2 hvN hvR hd
      repeat' (first | refine wz1 ?_ | refine wz2 ?_ | refine wz3 ?_ | refine wz4 ?_ | refine wz5 ?_ | refine wz6 ?_ | simp -dsimp (maxSteps:=999999) (disch:=omega) only[go_sem,simprocAttr, *] | ((first | refine wz8 (fun hh => ?_) (fun hh => ?_) | refine wz9 (fun hh => ?_) (fun hh => ?_) | refine wz7 (fun hh => ?_) (fun hh => ?_)) <;> (try replace hh := vqs hh) <;> (try (exfalso; first | exact hh | omega))))
      exact hout _
    rw [if_pos hb] at hG
    obtain ⟨q, hq⟩ : ∃ q, ls[i]? = some q := ⟨_, List.getElem?_eq_getElem hb⟩
    have hqd : ls.getD i [] = q := by simp [List.getD_eq_getElem?_getD, hq]
    rw [hqd] at hG
    have hIs := hI.step hb
    rw [hqd] at hIs
    repeat' (first | refine wz1 ?_ | refine wz2 ?_ | refine wz3 ?_ | refine wz4 ?_ | refine wz5 ?_ | refine wz6 ?_ | simp -dsimp (maxSteps:=999999) (disch:=omega) only[go_sem,simprocAttr, *,zrR7] | ((first | refine wz8 (fun hh => ?_) (fun hh => ?_) | refine wz9 (fun hh => ?_) (fun hh => ?_) | refine wpB_cond (by simp -dsimp (maxSteps:=999999) (disch:=omega) only[go_sem,simprocAttr, *,zrR7]; exact rfl) (fun hh => ?_) (fun hh => ?_)) <;> (try replace hh := vqs hh) <;> (try (exfalso; first | exact hh | omega))))
    have hrl : hget (Hi ++ [Ob.arr [rowD (rowZ [] 0)]]) Hi.length = .arr [rowD (rowZ [] 0)] := hget_new
    have hdr : DkAt 3 2 n nx ls [dN, dR, dS] (Hi ++ [Ob.arr [rowD (rowZ [] 0)]]) := hd.keep (by simp) fun r hr => hget_app_lt (hd.lt hr)
    have hnr : ¬ own (dkL 3 2 [dN, dR, dS]) Hi.length := fun ho => by have := hd.lt ho; omega
    have h0r : hget (Hi ++ [Ob.arr [rowD (rowZ [] 0)]]) 0 = .arr [.agg [.sl true [], .sl true []]] := by rw [hget_app_lt (lt_of_hget h0), h0]
    have h1r : hget (Hi ++ [Ob.arr [rowD (rowZ [] 0)]]) 1 = .arr [nfaD n] := by rw [hget_app_lt (lt_of_hget h1), h1]
    have hr0 : Hi.length ≠ 0 := by have := lt_of_hget h0; omega
    have hr1 : Hi.length ≠ 1 := by have := lt_of_hget h1; omega
    have hrl2 : Hi.length < (Hi ++ [Ob.arr [rowD (rowZ [] 0)]]).length := by simp
    generalize hrr8 : Hi.length = r8 at *
    generalize Hi ++ [Ob.arr [rowD (rowZ [] 0)]] = Hr at *
    have hgood := rowTo_good (s := q) hI.good
    have hold := rowTo_old n q ls
    have hlen2 := rowTo_len n q ls
    refine wpB_loop (fun e Hj => ∃ (j : Nat) (ds : List D), j ≤ 16 ∧ DkAt 3 2 n nx (rowTo n q ls j).2 ds Hj ∧ hget Hj 0 = .arr [.agg [.sl true [], .sl true []]] ∧ hget Hj 1 = .arr [nfaD n] ∧ hget Hj r8 = .arr [rowD (rowZ (rowTo n q ls j).1 j)] ∧ ¬ own (dkL 3 2 ds) 0 ∧ ¬ own (dkL 3 2 ds) 1 ∧ ¬ own (dkL 3 2 ds) r8 ∧ e 2 = .ptr 0 0 0 ∧ e 4 = .ptr 1 0 0 ∧ e 6 = .ptr 3 0 0 ∧ e 7 = .int .i64 i ∧ e 8 = .ptr r8 0 0 ∧ e 37 = .int .i64 j) (fun e H => 16 - natOf (e 37)) ?_ ?_
    · exact ⟨0, _, by omega, hdr, h0r, h1r, hrl, hn0, hn1, hnr, gs, gs, gs, gs, gs, gs⟩
    have e7o := e7
    clear hdr hrl h0r h1r hn0 hn1 hnr hrl2 hM hlen hd h0 h1 e2 e4 e6 e7
    rintro e Hj ⟨j, ds, hj, hd, h0, h1, h8, hn0, hn1, hn8, e2, e4, e6, e7, e8, e37⟩ R2 hR2
    obtain ⟨dN, dR, dS, rfl⟩ := ds_three hd.ms.lenX
    have hM := hd.hM
    simp only [List.getD_cons_zero, List.getD_cons_succ] at hM
    have hlj := hlen2 j
    by_cases hbj : j < 16
    · have hqj := hold j i q hq
      have hnz : (rowTo n q ls j).2 ≠ [] := by intro e; have k1 := hlj.2.1; have k2 := congrArg List.length e; simp only [List.length_nil] at k2; omega
      obtain ⟨rS, hdS, hgS, hrS⟩ := vec_get (hd.ms.v 2 (by simp)) (by simpa using hnz)
      simp only [List.getD_cons_zero, List.getD_cons_succ, List.length_map] at hdS hgS
      have hil : i < (rowTo n q ls j).2.length := (List.getElem?_eq_some_iff.1 hqj).1
      have hvs : vecSize Hj rS 1 = true := vecSize_of hgS (by simpa using hnz) (headIs _)
      have hqm : ((rowTo n q ls j).2.map isD)[i]? = some (isD q) := by simp [hqj]
      obtain ⟨-, lq, hlq⟩ := hI.good q (List.mem_of_getElem? hq)
      have hqlen : q.length ≤ 3300 := by have := clos_len n lq; rw [← hlq] at this; omega
      have hst := stepc_ok n q j g2 (by omega)
      rw [stepN_eq g3] at hst
      have hcl := close_ok n (stp n j q) g2 (by have := stp_len n j q; omega)
      rw [closeN_eq g3] at hcl
      have hs1 := stripNIc n q j
      have hs2 := stripNI n (stp n j q)
      have hS := dstate_ok 3 2 n nx _ _ Hj (clos n (stp n j q)) hd g3 (fun s hs => clos_in hs) (fun q' hq' => small_good g3 (hgood j q' hq')) (by have := clos_len n (stp n j q); omega) (by omega)
      have hlead : leadN n j q = clos n (stp n j q) := rfl
      have hre1 : (rowTo n q ls (j + 1)).1 = (rowTo n q ls j).1 ++ [(addS (rowTo n q ls j).2 (clos n (stp n j q))).1] := rfl
      have hre2 : (rowTo n q ls (j + 1)).2 = (addS (rowTo n q ls j).2 (clos n (stp n j q))).2 := rfl
      rw [← hre2] at hS
      clear hlead hnz hlq hgood hold hlen2 hG hIs
      repeat' (first | refine wz1 ?_ | refine wz2 ?_ | refine wz3 ?_ | refine wz4 ?_ | refine wz5 ?_ | refine wz6 ?_ | simp -dsimp (maxSteps:=999999) (disch:=omega) only[go_sem,simprocAttr, *] | ((first | refine wz8 (fun hh => ?_) (fun hh => ?_) | refine wz9 (fun hh => ?_) (fun hh => ?_) | refine wz7 (fun hh => ?_) (fun hh => ?_)) <;> (try replace hh := vqs hh) <;> (try (exfalso; first | exact hh | omega))))
      refine wpB_regionXL (prs := []) (by kernel_rfl) rfl (by kernel_rfl) ?_
      simp -dsimp (maxSteps:=999999) (disch:=omega) only[go_sem,simprocAttr, *,isD]
      refine ⟨fun _ => congrArg Option.isSome hs1, evB_plain bo20 rfl rfl hs1 hst ?_⟩
      simp -dsimp (maxSteps:=999999) (disch:=omega) only[go_sem,simprocAttr, *]
      refine ⟨fun _ => rfl, evB_plain bo19 rfl rfl hs2 hcl ?_⟩
      simp -dsimp (maxSteps:=999999) (disch:=omega) only[go_sem,simprocAttr, *]
      refine ⟨fun h => Bool.noConfusion (show false = true from h), evB_state bo18 rfl rfl hS ?_ (fun _ _ h => h.elim)⟩
      rintro _ H3 ⟨rfl, ds3, hd3, hv3⟩
      have h83 := (hv3.keep r8 (lt_of_hget h8) hn8).trans h8
      have h03 := (hv3.keep 0 (lt_of_hget h0) hn0).trans h0
      have h13 := (hv3.keep 1 (lt_of_hget h1) hn1).trans h1
      have hn03 : ¬ own (dkL 3 2 ds3) 0 := fun ho => by
        rcases hv3.ow 0 ho with h | h
        · exact hn0 h
        · have := lt_of_hget h0; omega
      have hn13 : ¬ own (dkL 3 2 ds3) 1 := fun ho => by
        rcases hv3.ow 1 ho with h | h
        · exact hn1 h
        · have := lt_of_hget h1; omega
      have hn83 : ¬ own (dkL 3 2 ds3) r8 := fun ho => by
        rcases hv3.ow r8 ho with h | h
        · exact hn8 h
        · have := lt_of_hget h8; omega
      have hz8 := rowZ_len hlj.1 (by omega : j ≤ 16)
      have hz9 := rowZ_set hlj.1 hbj (addS (rowTo n q ls j).2 (clos n (stp n j q))).1
      rw [← hre1] at hz9
      clear hS hst hcl hs1 hs2 hv3 hd hM hgS hrS hvs hqm hre1 hre2
      generalize rowZ (rowTo n q ls j).1 j = z at *
      generalize hz2 : rowZ (rowTo n q ls (j + 1)).1 (j + 1) = z2 at *
      generalize (addS (rowTo n q ls j).2 (clos n (stp n j q))).1 = x at *
      have b1 := row_noTup z
      have b2 := row_cells z
      have b3 := row_aggQ z
      have hob : (D.agg (List.take (j * 1) (List.map (D.int .i64) z) ++ [D.int .i64 x] ++ List.drop (j * 1 + 1) (List.map (D.int .i64) z))) = rowD z2 := by
        rw [← hz9, Nat.mul_one]; simp [rowD, List.map_append, List.map_take, List.map_drop]
      have hl8 := lt_of_hget h83
      have q0 : hget (H3.set r8 (.arr [rowD z2])) 0 = _ := (hget_set_ne hr0).trans h03
      have q1 : hget (H3.set r8 (.arr [rowD z2])) 1 = _ := (hget_set_ne hr1).trans h13
      have q8 : hget (H3.set r8 (.arr [rowD z2])) r8 = .arr [rowD z2] := hget_set_eq hl8
      have qd : DkAt 3 2 n nx (rowTo n q ls (j + 1)).2 ds3 (H3.set r8 (.arr [rowD z2])) := hd3.keep (by simp) fun r hr => hget_set_ne fun e => hn83 (e ▸ hr)
      simp -dsimp (maxSteps:=999999) (disch:=omega) only[go_sem,simprocAttr, *]
      clear hob hz9 b1 b2 b3 hd3
      generalize H3.set r8 (.arr [rowD z2]) = H4 at *
      repeat' (first | refine wz1 ?_ | refine wz2 ?_ | refine wz3 ?_ | refine wz4 ?_ | refine wz5 ?_ | refine wz6 ?_ | simp -dsimp (maxSteps:=999999) (disch:=omega) only[go_sem,simprocAttr, *] | ((first | refine wz8 (fun hh => ?_) (fun hh => ?_) | refine wz9 (fun hh => ?_) (fun hh => ?_) | refine wz7 (fun hh => ?_) (fun hh => ?_)) <;> (try replace hh := vqs hh) <;> (try (exfalso; first | exact hh | omega))))
      refine hR2 _ _ ⟨j + 1, ds3, by omega, qd, q0, q1, by rw [hz2]; exact q8, hn03, hn13, hn83, gs, gs, gs, gs, gs, gs⟩ ?_
      simp -dsimp (maxSteps:=999999) (disch:=omega) only[go_sem,simprocAttr, *,natOf_int]
    · obtain rfl : j = 16 := by omega
      have hlen := fun HH => vec_len (e := 26) (hd.ms.v 2 (by simp)) HH
      simp only [List.getD_cons_zero, List.getD_cons_succ, List.length_map] at hlen
      by_cases hbig : 200 < (rowTo n q ls 16).2.length
      · rw [if_pos hbig] at hG
        subst hG
        have hl0 := lt_of_hget h0
        clear hlen2 hold hgood hI hIs hd hlj
        repeat' (first | refine wz1 ?_ | refine wz2 ?_ | refine wz3 ?_ | refine wz4 ?_ | refine wz5 ?_ | refine wz6 ?_ | simp -dsimp (maxSteps:=999999) (disch:=omega) only[go_sem,simprocAttr, *,bdD0] | ((first | refine wz8 (fun hh => ?_) (fun hh => ?_) | refine wz9 (fun hh => ?_) (fun hh => ?_) | refine wpB_cond (by simp -dsimp (maxSteps:=999999) (disch:=omega) only[go_sem,simprocAttr, *,bdD0]; exact rfl) (fun hh => ?_) (fun hh => ?_)) <;> (try replace hh := vqs hh) <;> (try (exfalso; first | exact hh | omega))))
        exact outPure_strip rfl
      · rw [if_neg hbig] at hG
        have hz8 : rowZ (rowTo n q ls 16).1 16 = (rowTo n q ls 16).1 := by simp [rowZ]
        rw [hz8] at h8
        have hr16 := hlj.1
        have hnl := hI.len
        clear hlen2 hold hgood hz8
        generalize hrow : (rowTo n q ls 16).1 = row at *
        generalize hls2 : (rowTo n q ls 16).2 = ls2 at *
        have b1 := row_noTup row
        have b2 := row_cells row
        have b3 := row_aggQ row
        obtain ⟨d4, H4, a4, m4, M4, l4, k4, f4, p1, p2, p3⟩ := hd.ms.app (p := 0) (by simp) (H1 := Hj ++ [.arr [rowD row]]) el25 sz62 by62 zrR7 rfl (by decide) (by simp) (fun r hr => hget_app_lt hr) (add_new (.inl (strip_row row))) (by rw [row_cells]; simp [hr16]) (headRows nx (fun r hr => by
          obtain ⟨j, hj, rfl⟩ := List.mem_iff_getElem.1 hr
          have := (hI.row j (by omega)).1
          rwa [List.getD_eq_getElem?_getD, List.getElem?_eq_getElem hj] at this)) (by simp; have := hI.le; omega)
        simp only [List.set_cons_zero, List.set_cons_succ, List.getD_cons_zero, List.getD_cons_succ] at m4 a4 k4
        simp only [List.length_append, List.length_cons, List.length_nil] at l4
        have hM4 := M4.trans hM
        have w4 := m4.m
        have hrl := hd.rl
        have ro : ∀ i, 2 ∉ objsD ([d4, dR, dS].getD i ud) := fun i hi => by
          match i, hi with
          | 0, hi => have := f4 2 (by simpa using hi); omega
          | 1, hi => exact hd.ro 1 hi
          | 2, hi => exact hd.ro 2 hi
          | i + 3, hi => simp [ud, objsD] at hi
        have no : ∀ r, r < Hj.length → ¬ own (dkL 3 2 [dN, dR, dS]) r → ¬ own (dkL 3 2 [d4, dR, dS]) r := fun r hr hn ⟨i, hi⟩ => by
          match i, hi with
          | 0, hi => exact hn ⟨0, hi⟩
          | 1, hi => exact hn ⟨1, hi⟩
          | 2, hi => have := f4 r (by simpa using hi); omega
          | 3, hi => exact hn ⟨3, hi⟩
          | 4, hi => exact hn ⟨4, hi⟩
          | i + 5, hi => simp [ud, objsD] at hi
        have hsame : ∀ r ob, r < Hj.length → ¬ own (dkL 3 2 [dN, dR, dS]) r → hget (H4.set 3 ob) r = hget Hj r := fun r ob hr hn => by
          rw [hget_set_ne (fun e => hn ⟨0, by simp [objsD, e]⟩), k4 r hr (fun h => hn ⟨2, h⟩)]
        have hD : DkAt 3 2 n (nx ++ [row]) ls2 [d4, dR, dS] (H4.set 3 (.arr [.agg [.sl false (n.free.map isD), .sl false (n.set.map (.int .u16)), .sl false (n.to.map (.int .i64)), .sl false (n.rule.map (.int .i64)), d4, dR, .map 2, dS]])) := by
          refine ⟨by simpa using m4.setM _, by rw [hget_set_eq w4]; rfl, ?_, hd.rM, ro, by simp; omega⟩
          rw [hget_set_ne (by omega), k4 2 hrl (hd.ro 0), hd.hm]
        have q0 := (hsame 0 (.arr [.agg [.sl false (n.free.map isD), .sl false (n.set.map (.int .u16)), .sl false (n.to.map (.int .i64)), .sl false (n.rule.map (.int .i64)), d4, dR, .map 2, dS]]) (lt_of_hget h0) hn0).trans h0
        have q1 := (hsame 1 (.arr [.agg [.sl false (n.free.map isD), .sl false (n.set.map (.int .u16)), .sl false (n.to.map (.int .i64)), .sl false (n.rule.map (.int .i64)), d4, dR, .map 2, dS]]) (lt_of_hget h1) hn1).trans h1
        have n0 := no 0 (lt_of_hget h0) hn0
        have n1 := no 1 (lt_of_hget h1) hn1
        have hr8l := lt_of_hget h8
        have hsr : stripL [rowD row] = some [rowD row] := strip1 (strip_row row)
        have hne3 : Hj.length ≠ 3 := by have := hd.ms.m; omega
        clear hsame no ro k4 f4 m4 hd l4 hI hlj M4
        repeat' (first | refine wz1 ?_ | refine wz2 ?_ | refine wz3 ?_ | refine wz4 ?_ | refine wz5 ?_ | refine wz6 ?_ | simp -dsimp (maxSteps:=999999) (disch:=omega) only[go_sem,simprocAttr, *] | ((first | refine wz8 (fun hh => ?_) (fun hh => ?_) | refine wz9 (fun hh => ?_) (fun hh => ?_) | refine wz7 (fun hh => ?_) (fun hh => ?_)) <;> (try replace hh := vqs hh) <;> (try (exfalso; first | exact hh | omega))))
        refine wpB_regionXL (prs := [([71], [68])]) (by kernel_rfl) rfl (by kernel_rfl) ?_; simp -dsimp (maxSteps:=999999) (disch:=omega) only[go_sem,simprocAttr, *]
        refine ⟨rfl, ?_⟩
        generalize H4.set 3 (.arr [.agg [.sl false (n.free.map isD), .sl false (n.set.map (.int .u16)), .sl false (n.to.map (.int .i64)), .sl false (n.rule.map (.int .i64)), d4, dR, .map 2, dS]]) = J at *
        repeat' (first | refine wz1 ?_ | refine wz2 ?_ | refine wz3 ?_ | refine wz4 ?_ | refine wz5 ?_ | refine wz6 ?_ | simp -dsimp (maxSteps:=999999) (disch:=omega) only[go_sem,simprocAttr, *] | ((first | refine wz8 (fun hh => ?_) (fun hh => ?_) | refine wz9 (fun hh => ?_) (fun hh => ?_) | refine wz7 (fun hh => ?_) (fun hh => ?_)) <;> (try replace hh := vqs hh) <;> (try (exfalso; first | exact hh | omega))))
        refine hR _ _ ⟨k, i + 1, ls2, nx ++ [row], _, by omega, hIs, by omega, hD, q0, q1, n0, n1, hG, gs, gs, gs, gs⟩ ?_
        simp -dsimp (maxSteps:=999999) (disch:=omega) only[go_sem,simprocAttr, *,natOf_int]
end Go.Proofs.W
end
/- Sets of states as tables: what the document's functions tell of them. -/
section
set_option maxHeartbeats 4000000
set_option linter.unusedVariables false
set_option linter.unusedSimpArgs false
namespace Go.Proofs.W
open Go Vm Go.Proofs.Zs7z

def tabL (k : Nat) (l : List Int) : D := tD k fun s => decide ((s : Int) ∈ l)
/-- rising numbers below a bound -/
def IsL (k : Nat) (l : List Int) : Prop := ∃ p, l = listZ k p
theorem clos_isL (n : Nfa) (l : List Int) : IsL n.set.length (clos n l) := ⟨_, rfl⟩
theorem stp_isL (n : Nfa) (c : Int) (l : List Int) : IsL n.set.length (stp n c l) := ⟨_, rfl⟩
theorem isL_mem {k : Nat} {p : Nat → Bool} {s : Nat} (hs : s < k) : decide ((s : Int) ∈ listZ k p) = p s := by
  rw [Bool.eq_iff_iff, decide_eq_true_eq, mem_listZ]
  constructor
  · rintro ⟨i, _, h2, h3⟩
    have : s = i := by omega
    rw [this]; exact h2
  · intro h; exact ⟨s, hs, h, rfl⟩
theorem tab_listZ (k : Nat) (p : Nat → Bool) : tD k p = tabL k (listZ k p) := by
  unfold tabL tD
  exact congrArg (D.sl false) (tabD_congr fun i hi => (isL_mem hi).symm)
theorem listZ_tab {k : Nat} {l : List Int} (h : IsL k l) : listZ k (fun s => decide ((s : Int) ∈ l)) = l := by
  obtain ⟨p, rfl⟩ := h
  refine strict_unique (listZ_strict _ _) (listZ_strict _ _) fun x => ?_
  rw [mem_listZ, mem_listZ]
  constructor
  · rintro ⟨i, h1, h2, h3⟩; exact ⟨i, h1, by rw [← isL_mem (p := p) h1]; exact h2, h3⟩
  · rintro ⟨i, h1, h2, h3⟩; exact ⟨i, h1, by rw [isL_mem (p := p) h1]; exact h2, h3⟩
theorem isL_eq {k : Nat} {a b : List Int} (ha : IsL k a) (hb : IsL k b) (h : ∀ s, s < k → decide ((s : Int) ∈ a) = decide ((s : Int) ∈ b)) : a = b := by
  obtain ⟨p, rfl⟩ := ha
  obtain ⟨q, rfl⟩ := hb
  refine strict_unique (listZ_strict _ _) (listZ_strict _ _) fun x => ?_
  rw [mem_listZ, mem_listZ]
  constructor
  · rintro ⟨i, h1, h2, h3⟩; exact ⟨i, h1, by rw [← isL_mem (p := q) h1, ← h i h1, isL_mem (p := p) h1]; exact h2, h3⟩
  · rintro ⟨i, h1, h2, h3⟩; exact ⟨i, h1, by rw [← isL_mem (p := p) h1, h i h1, isL_mem (p := q) h1]; exact h2, h3⟩
theorem strip_tabL (k : Nat) (l : List Int) : strip (tabL k l) = some (tabL k l) := strip_tD k _
theorem headTabs (k : Nat) (ls : List (List Int)) : headSize 1 (ls.map (tabL k)) = true := by cases ls <;> rfl
theorem rtable_ok (k : Nat) (hk : 1 ≤ k) (hk2 : k ≤ 1000000) : PureF Tryz.prog A 23 [isD [0], .int .i64 k] (tabL k [0]) := table_ok [0] k hk hk2 (by simp)
theorem rclose_ok (n : Nfa) (l : List Int) (hn : rightN n = true) (hfl : ∀ l ∈ n.free, l.length ≤ 1000000) : PureF Tryz.prog A 22 [nfaD n, tabL n.set.length l] (tabL n.set.length (clos n l)) := by
  have := closeR_ok n (fun s => decide ((s : Int) ∈ l)) hn hfl
  have e : (fun s : Nat => s < n.set.length ∧ decide ((s : Int) ∈ l) = true) = inS n.set.length l := by
    funext s; simp [inS]
  rw [e, tab_listZ _ (clo n _)] at this
  exact this
theorem rstep_ok (n : Nfa) (c : Int) (l : List Int) (hn : rightN n = true) : PureF Tryz.prog A 24 [nfaD n, tabL n.set.length l, .int .i64 c] (tabL n.set.length (stp n c l)) := by
  have := stepR_ok n c (fun s => decide ((s : Int) ∈ l)) hn
  rw [tab_listZ _ (stepTo n c _ _)] at this
  exact this
theorem rends_ok (n : Nfa) (l : List Int) (hn : rightN n = true) (hl : IsL n.set.length l) : PureF Tryz.prog A 26 [nfaD n, tabL n.set.length l] (.int .i64 (endsZ n l)) := by
  have := endsR_ok n (fun s => decide ((s : Int) ∈ l)) hn
  rw [listZ_tab hl] at this
  exact this
theorem stripNt (n : Nfa) (k : Nat) (l : List Int) : stripL [nfaD n, tabL k l] = some [nfaD n, tabL k l] := strip2 (strip_nfa n) (strip_tabL k l)
theorem stripNtc (n : Nfa) (k : Nat) (l : List Int) (c : Int) : stripL [nfaD n, tabL k l, .int .i64 c] = some [nfaD n, tabL k l, .int .i64 c] := strip3 (strip_nfa n) (strip_tabL k l) rfl
theorem striptt (k : Nat) (a b : List Int) : stripL [tabL k a, tabL k b] = some [tabL k a, tabL k b] := strip2 (strip_tabL k a) (strip_tabL k b)
theorem eqD_b7 (a b : Bool) : eqD Tryz.prog 4 (.bool a) (.bool b) = some (a == b) := by cases a <;> cases b <;> kernel_rfl
theorem rsame_ok (k : Nat) (a b : List Int) (ha : IsL k a) (hb : IsL k b) (hk2 : k ≤ 1000000) : PureF Tryz.prog A 25 [tabL k a, tabL k b] (.bool (decide (a = b))) := by
  have hall : ∀ s, s < k → decide ((s : Int) ∈ a) ≠ decide ((s : Int) ∈ b) → decide (a = b) = false := fun s _ h => by
    rw [decide_eq_false_iff_not]
    rintro rfl
    exact h rfl
  have hend : (∀ s, s < k → decide ((s : Int) ∈ a) = decide ((s : Int) ∈ b)) → decide (a = b) = true := fun h => by
    rw [decide_eq_true_eq]; exact isL_eq ha hb h
  generalize decide (a = b) = G at *
  have ta : tabL k a = .sl false (tabD k fun s => decide ((s : Int) ∈ a)) := rfl
  have tb : tabL k b = .sl false (tabD k fun s => decide ((s : Int) ∈ b)) := rfl
  have hall' : ∀ s, s < k → (fun s : Nat => decide ((s : Int) ∈ a)) s ≠ (fun s : Nat => decide ((s : Int) ∈ b)) s → G = false := hall
  have hend' : (∀ s, s < k → (fun s : Nat => decide ((s : Int) ∈ a)) s = (fun s : Nat => decide ((s : Int) ∈ b)) s) → G = true := hend
  clear hall hend
  generalize (fun s : Nat => decide ((s : Int) ∈ a)) = p at *
  generalize (fun s : Nat => decide ((s : Int) ∈ b)) = q at *
  refine evF_inB (n := 21) (rs := [.tmp 4]) Tryz.func25 rfl rfl rfl rfl rfl rfl ?_
  repeat' (first | refine wz1 ?_ | refine wz2 ?_ | refine wz3 ?_ | refine wz4 ?_ | refine wz5 ?_ | refine wz6 ?_ | simp -dsimp (maxSteps:=999999) (disch:=omega) only[go_sem,simprocAttr, *] | ((first | refine wz8 (fun hh => ?_) (fun hh => ?_) | refine wz9 (fun hh => ?_) (fun hh => ?_) | refine wz7 (fun hh => ?_) (fun hh => ?_)) <;> (try replace hh := vqs hh) <;> (try (exfalso; first | exact hh | omega))))
  refine wpB_loop (fun e H => ∃ i : Nat, i ≤ k ∧ H = [] ∧ e 0 = .sl false (tabD k p) ∧ e 1 = .sl false (tabD k q) ∧ e 5 = .int .i64 i ∧ ∀ s, s < i → p s = q s) (fun e H => k - natOf (e 5)) ?_ ?_
  · exact ⟨0, by omega, rfl, gs, gs, gs, fun s h => by omega⟩
  rintro e H ⟨i, hi, rfl, e0, e1, e5, hpq⟩ R hR
  have la : (tabD k p).length = k := tabD_len
  have lb : (tabD k q).length = k := tabD_len
  by_cases hb : i < k
  · have g1 := tabD_at (p := p) hb
    have g2 := tabD_at (p := q) hb
    by_cases hd : p i = q i
    · have hd2 : (p i == q i) = true := by rw [hd]; exact beq_self_eq_true _
      repeat' (first | refine wz1 ?_ | refine wz2 ?_ | refine wz3 ?_ | refine wz4 ?_ | refine wz5 ?_ | refine wz6 ?_ | simp -dsimp (maxSteps:=999999) (disch:=omega) only[go_sem,simprocAttr, *] | ((first | refine wz8 (fun hh => ?_) (fun hh => ?_) | refine wz9 (fun hh => ?_) (fun hh => ?_) | refine wz7 (fun hh => ?_) (fun hh => ?_)) <;> (try replace hh := vqs hh) <;> (try (exfalso; first | exact hh | omega))))
      refine wpB_regionXL (prs := []) (by kernel_rfl) rfl (by kernel_rfl) ?_; simp -dsimp (maxSteps:=999999) (disch:=omega) only[go_sem,simprocAttr, *]
      rw [eqD_b7]
      repeat' (first | refine wz1 ?_ | refine wz2 ?_ | refine wz3 ?_ | refine wz4 ?_ | refine wz5 ?_ | refine wz6 ?_ | simp -dsimp (maxSteps:=999999) (disch:=omega) only[go_sem,simprocAttr, *] | ((first | refine wz8 (fun hh => ?_) (fun hh => ?_) | refine wz9 (fun hh => ?_) (fun hh => ?_) | refine wz7 (fun hh => ?_) (fun hh => ?_)) <;> (try replace hh := vqs hh) <;> (try (exfalso; first | exact hh | omega))))
      refine hR _ _ ⟨i + 1, by omega, rfl, gs, gs, gs, fun s h => ?_⟩ ?_
      · rcases Nat.lt_or_ge s i with h' | h'
        · exact hpq s h'
        · rw [show s = i by omega]; exact hd
      simp -dsimp (maxSteps:=999999) (disch:=omega) only[go_sem,simprocAttr, *,natOf_int]
    · have hG := hall' i hb hd
      subst hG
      have hd2 : (p i == q i) = false := beq_eq_false_iff_ne.2 hd
      repeat' (first | refine wz1 ?_ | refine wz2 ?_ | refine wz3 ?_ | refine wz4 ?_ | refine wz5 ?_ | refine wz6 ?_ | simp -dsimp (maxSteps:=999999) (disch:=omega) only[go_sem,simprocAttr, *] | ((first | refine wz8 (fun hh => ?_) (fun hh => ?_) | refine wz9 (fun hh => ?_) (fun hh => ?_) | refine wz7 (fun hh => ?_) (fun hh => ?_)) <;> (try replace hh := vqs hh) <;> (try (exfalso; first | exact hh | omega))))
      refine wpB_regionXL (prs := []) (by kernel_rfl) rfl (by kernel_rfl) ?_; simp -dsimp (maxSteps:=999999) (disch:=omega) only[go_sem,simprocAttr, *]
      rw [eqD_b7]
      repeat' (first | refine wz1 ?_ | refine wz2 ?_ | refine wz3 ?_ | refine wz4 ?_ | refine wz5 ?_ | refine wz6 ?_ | simp -dsimp (maxSteps:=999999) (disch:=omega) only[go_sem,simprocAttr, *] | ((first | refine wz8 (fun hh => ?_) (fun hh => ?_) | refine wz9 (fun hh => ?_) (fun hh => ?_) | refine wz7 (fun hh => ?_) (fun hh => ?_)) <;> (try replace hh := vqs hh) <;> (try (exfalso; first | exact hh | omega))))
  · obtain rfl : i = k := by omega
    have hG := hend' hpq
    subst hG
    repeat' (first | refine wz1 ?_ | refine wz2 ?_ | refine wz3 ?_ | refine wz4 ?_ | refine wz5 ?_ | refine wz6 ?_ | simp -dsimp (maxSteps:=999999) (disch:=omega) only[go_sem,simprocAttr, *] | ((first | refine wz8 (fun hh => ?_) (fun hh => ?_) | refine wz9 (fun hh => ?_) (fun hh => ?_) | refine wz7 (fun hh => ?_) (fun hh => ?_)) <;> (try replace hh := vqs hh) <;> (try (exfalso; first | exact hh | omega))))
/-- some state is told -/
def anyTo (l : List Int) (j : Nat) : Bool := (List.range j).any fun s => decide ((s : Int) ∈ l)
theorem anyTo_succ (l : List Int) (j : Nat) : anyTo l (j + 1) = (anyTo l j || decide ((j : Int) ∈ l)) := by
  simp only [anyTo, List.range_succ, List.any_append, List.any_cons, List.any_nil, Bool.or_false]
theorem anyTo_all {k : Nat} {l : List Int} (h : IsL k l) : anyTo l k = true ↔ l ≠ [] := by
  obtain ⟨p, rfl⟩ := h
  simp only [anyTo, List.any_eq_true, List.mem_range, decide_eq_true_eq]
  constructor
  · rintro ⟨s, _, h2⟩ e; rw [e] at h2; cases h2
  · intro h
    obtain ⟨x, hx⟩ := List.exists_mem_of_ne_nil _ h
    obtain ⟨i, h1, h2, h3⟩ := mem_listZ.1 hx
    exact ⟨i, h1, by rw [← h3]; exact hx⟩
theorem rowZ_at {r : List Int} {j : Nat} {x : Int} (h : r.length = j) : (rowZ (r ++ [x]) (j + 1))[j]? = some x := by
  subst h
  simp [rowZ]
theorem rowZ_set2 {r : List Int} {j : Nat} (h : r.length = j) (x y : Int) : (rowZ (r ++ [y]) (j + 1)).take j ++ x :: (rowZ (r ++ [y]) (j + 1)).drop (j + 1) = rowZ (r ++ [x]) (j + 1) := by
  subst h
  unfold rowZ
  rw [List.append_assoc, List.take_append_of_le_length (Nat.le_refl _), List.take_length, List.drop_append, List.drop_of_length_le (by omega)]
  simp [List.append_assoc]
end Go.Proofs.W
end
/- A number into rising ones, once. -/
section
set_option maxHeartbeats 4000000
set_option linter.unusedVariables false
set_option linter.unusedSimpArgs false
namespace Go.Proofs.W
open Go Vm Go.Proofs.Zs7z

def intoL : List Int → Int → List Int
  | [], x => [x]
  | y :: r, x => if y < x then y :: intoL r x else if y = x then y :: r else x :: y :: r
theorem into_all : ∀ {l : List Int} {x : Int} {k : Nat}, k ≤ l.length → (∀ y ∈ l.take k, y < x) → intoL l x = l.take k ++ intoL (l.drop k) x
  | [], x, k, h, _ => by simp
  | y :: r, x, 0, h, _ => rfl
  | y :: r, x, k + 1, h, hy => by
    have h1 : y < x := hy y (by simp)
    rw [intoL, if_pos h1, List.take_succ_cons, List.drop_succ_cons, List.cons_append, into_all (k := k) (by simpa using h) (fun z hz => hy z (by simp [hz]))]
theorem into_snoc {l : List Int} {x : Int} (h : ∀ y ∈ l, y < x) : intoL l x = l ++ [x] := by
  have := into_all (l := l) (x := x) (k := l.length) (Nat.le_refl _) (by rw [List.take_length]; exact h)
  rwa [List.take_length, List.drop_length] at this
theorem into_len : ∀ (l : List Int) (x : Int), (intoL l x).length ≤ l.length + 1
  | [], x => by simp [intoL]
  | y :: r, x => by
    have := into_len r x
    rw [intoL]
    split
    · simp; omega
    · split <;> simp
theorem into_ne (l : List Int) (x : Int) : intoL l x ≠ [] := by
  cases l with
  | nil => simp [intoL]
  | cons y r =>
    rw [intoL]
    split
    · simp
    · split <;> simp
theorem into_mem {x : Int} : ∀ {l : List Int} {y : Int}, y ∈ intoL l x → y = x ∨ y ∈ l
  | [], y, h => by simp [intoL] at h; exact .inl h
  | z :: r, y, h => by
    rw [intoL] at h
    split at h
    · rcases List.mem_cons.1 h with rfl | h
      · exact .inr (by simp)
      · rcases into_mem h with h | h
        · exact .inl h
        · exact .inr (by simp [h])
    · split at h
      · exact .inr h
      · rcases List.mem_cons.1 h with rfl | h
        · exact .inl rfl
        · exact .inr h
theorem into_rise : ∀ {l : List Int} {x : Int}, l.Pairwise (· < ·) → (intoL l x).Pairwise (· < ·)
  | [], x, _ => by simp [intoL]
  | y :: r, x, h => by
    have h1 := List.pairwise_cons.1 h
    rw [intoL]
    by_cases c : y < x
    · rw [if_pos c]
      refine List.pairwise_cons.2 ⟨fun z hz => ?_, into_rise h1.2⟩
      rcases into_mem hz with rfl | hz
      · exact c
      · exact h1.1 z hz
    · rw [if_neg c]
      by_cases e : y = x
      · rw [if_pos e]; exact h
      · rw [if_neg e]
        refine List.pairwise_cons.2 ⟨fun z hz => ?_, h⟩
        rcases List.mem_cons.1 hz with rfl | hz
        · omega
        · have := h1.1 z hz; omega
theorem into_ok (l : List Int) (x : Int) (hl : l.length ≤ 100000) : PureF Tryz.prog A 43 [isD l, .int .i64 x] (isD (intoL l x)) := by
  have ew : isD l = .sl false (l.map (.int .i64)) := rfl
  refine evF_inB (n := 49) (rs := [.tmp 4]) Tryz.func43 rfl rfl rfl rfl rfl rfl ?_
  repeat' (first | refine wz1 ?_ | refine wz2 ?_ | refine wz3 ?_ | refine wz4 ?_ | refine wz5 ?_ | refine wz6 ?_ | simp -dsimp (maxSteps:=999999) (disch:=omega) only[go_sem,simprocAttr, *] | ((first | refine wz8 (fun hh => ?_) (fun hh => ?_) | refine wz9 (fun hh => ?_) (fun hh => ?_) | refine wz7 (fun hh => ?_) (fun hh => ?_)) <;> (try replace hh := vqs hh) <;> (try (exfalso; first | exact hh | omega))))
  refine wpB_loop (fun e H => ∃ (k : Nat) (d : D), k ≤ l.length ∧ VecAt 0 d H ((l.take k).map (.int .i64)) ∧ (∀ y ∈ l.take k, y < x) ∧ e 0 = isD l ∧ e 1 = .int .i64 x ∧ e 5 = d ∧ e 6 = .int .i64 k) (fun e H => l.length - natOf (e 6)) ?_ ?_
  · exact ⟨0, _, by omega, VecAt.nil (Nat.zero_le _), by simp, gs, gs, gs, gs⟩
  rintro e H ⟨k, d, hk, hv, hall, e0, e1, e5, e6⟩ R hR
  have hlen : (l.take k).length = k := by rw [List.length_take]; omega
  have hia := into_all hk hall
  have hsl : List.drop k (List.take l.length (List.map (D.int .i64) l)) = (l.drop k).map (.int .i64) := by rw [← List.map_take, List.take_length, List.map_drop]
  have hhd := headInts l
  by_cases hb : k < l.length
  · have hx : (l.map (D.int .i64))[k]? = some (.int .i64 l[k]) := by simp [hb]
    have htk := take_succ' hb
    have hdr : l.drop k = l[k] :: l.drop (k + 1) := List.drop_eq_getElem_cons hb
    by_cases hc : l[k] < x
    · obtain ⟨d', H', ha, hv', hsm⟩ := app_int hv l[k] (by omega)
      rw [← htk] at hv'
      have hall2 : ∀ y ∈ l.take (k + 1), y < x := fun y hy => by
        rw [htk] at hy
        rcases List.mem_append.1 hy with hy | hy
        · exact hall y hy
        · rw [List.mem_singleton.1 hy]; exact hc
      clear hia hsl htk hdr hall
      generalize l[k] = z at *
      repeat' (first | refine wz1 ?_ | refine wz2 ?_ | refine wz3 ?_ | refine wz4 ?_ | refine wz5 ?_ | refine wz6 ?_ | simp -dsimp (maxSteps:=999999) (disch:=omega) only[go_sem,simprocAttr, *] | ((first | refine wz8 (fun hh => ?_) (fun hh => ?_) | refine wz9 (fun hh => ?_) (fun hh => ?_) | refine wz7 (fun hh => ?_) (fun hh => ?_)) <;> (try replace hh := vqs hh) <;> (try (exfalso; first | exact hh | omega))))
      refine hR _ _ ⟨k + 1, d', by omega, hv', hall2, gs, gs, gs, gs⟩ ?_
      simp -dsimp (maxSteps:=999999) (disch:=omega) only[go_sem,simprocAttr, *,natOf_int]
    · by_cases hq : l[k] = x
      · have hres : intoL l x = l.take k ++ l.drop k := by
          rw [hia, hdr, intoL, if_neg hc, if_pos hq]
        obtain ⟨d', H', ha, hv', hsm⟩ := app_is hv (l.drop k) (by simp; omega)
        rw [← hres] at hv'
        have hout := hv'.out (strip_ints _)
        rw [← hsl] at ha
        clear hia hsl hres hdr htk hall hv'
        generalize l[k] = z at *
        repeat' (first | refine wz1 ?_ | refine wz2 ?_ | refine wz3 ?_ | refine wz4 ?_ | refine wz5 ?_ | refine wz6 ?_ | simp -dsimp (maxSteps:=999999) (disch:=omega) only[go_sem,simprocAttr, *] | ((first | refine wz8 (fun hh => ?_) (fun hh => ?_) | refine wz9 (fun hh => ?_) (fun hh => ?_) | refine wz7 (fun hh => ?_) (fun hh => ?_)) <;> (try replace hh := vqs hh) <;> (try (exfalso; first | exact hh | omega))))
        rfl
      · have hres : intoL l x = (l.take k ++ [x]) ++ l.drop k := by
          rw [hia, hdr, intoL, if_neg hc, if_neg hq]; simp
        obtain ⟨d1, H1, ha1, hv1, hsm1⟩ := app_int hv x (by omega)
        obtain ⟨d', H', ha, hv', hsm⟩ := app_is hv1 (l.drop k) (by simp; omega)
        rw [← hres] at hv'
        have hout := hv'.out (strip_ints _)
        rw [← hsl] at ha
        clear hia hsl hres hdr htk hall hv' hv1
        generalize l[k] = z at *
        repeat' (first | refine wz1 ?_ | refine wz2 ?_ | refine wz3 ?_ | refine wz4 ?_ | refine wz5 ?_ | refine wz6 ?_ | simp -dsimp (maxSteps:=999999) (disch:=omega) only[go_sem,simprocAttr, *] | ((first | refine wz8 (fun hh => ?_) (fun hh => ?_) | refine wz9 (fun hh => ?_) (fun hh => ?_) | refine wz7 (fun hh => ?_) (fun hh => ?_)) <;> (try replace hh := vqs hh) <;> (try (exfalso; first | exact hh | omega))))
        rfl
  · have hk2 : k = l.length := by omega
    subst hk2
    have hres : intoL l x = (l.take l.length ++ [x]) ++ l.drop l.length := by
      rw [hia, List.drop_length, intoL]; simp
    obtain ⟨d1, H1, ha1, hv1, hsm1⟩ := app_int hv x (by omega)
    obtain ⟨d', H', ha, hv', hsm⟩ := app_is hv1 (l.drop l.length) (by simp; omega)
    rw [← hres] at hv'
    have hout := hv'.out (strip_ints _)
    rw [← hsl] at ha
    clear hia hsl hres hall hv' hv1
    repeat' (first | refine wz1 ?_ | refine wz2 ?_ | refine wz3 ?_ | refine wz4 ?_ | refine wz5 ?_ | refine wz6 ?_ | simp -dsimp (maxSteps:=999999) (disch:=omega) only[go_sem,simprocAttr, *] | ((first | refine wz8 (fun hh => ?_) (fun hh => ?_) | refine wz9 (fun hh => ?_) (fun hh => ?_) | refine wz7 (fun hh => ?_) (fun hh => ?_)) <;> (try replace hh := vqs hh) <;> (try (exfalso; first | exact hh | omega))))
    rfl
end Go.Proofs.W
end
/- An expression's steps, laid from a state on into a machine, in the document's words. -/
section
set_option maxHeartbeats 4000000
set_option linter.unusedVariables false
set_option linter.unusedSimpArgs false
namespace Go.Proofs.W
open Go Vm Go.Proofs.Zs7z

def addI (n : Nfa) (i : Nat) (x : Nat) : Nfa := { n with free := n.free.set i (intoL (n.free.getD i []) (x : Int)) }
/-- what a kid, being laid, brings -/
def kidW (k : Int) (at_ en next kid last : Nat) (n : Nfa) : Nfa × Nat :=
  if k = 2 then (addI n last next, kid) else if k = 4 then (addI (addI (addI n kid next) at_ next) kid en, last) else (addI (addI n at_ next) kid en, last)
mutual
def layN : Rx → Nat → Nfa → Nfa
  | .mk k s l, a, n => if k = 1 then { n with set := n.set.set a s, to := n.to.set a ((a + 2 * sizeL l + 1 : Nat) : Int) } else
    let x := layL k a (a + 2 * sizeL l + 1) l (a + 1) a (if k ≠ 2 ∧ k ≠ 3 then addI n a (a + 2 * sizeL l + 1) else n)
    if k = 2 then addI x.1 x.2 (a + 2 * sizeL l + 1) else x.1
def layL (k : Int) (a en : Nat) : List Rx → Nat → Nat → Nfa → Nfa × Nat
  | [], _, last, n => (n, last)
  | r :: l, next, last, n =>
    let x := kidW k a en next (next + 2 * sizeR r - 1) last (layN r next n)
    layL k a en l (next + 2 * sizeR r) x.2 x.1
end
theorem sum_set {l : List (List Int)} {f : Nat} {y : List Int} (hy : y.length ≤ (l.getD f []).length + 1) : ((l.set f y).map List.length).sum ≤ (l.map List.length).sum + 1 := by
  induction l generalizing f with
  | nil => simp
  | cons x l ih =>
    cases f with
    | zero => simp at hy ⊢; omega
    | succ f => have := ih (f := f) (by simpa using hy); simp at this ⊢; omega
theorem addI_f (n : Nfa) (i x : Nat) : fN (addI n i x) ≤ fN n + 1 := sum_set (into_len _ _)
theorem addI_k (n : Nfa) (i x : Nat) : kN (addI n i x) = kN n := rfl
/-- a list of free steps, as it lies -/
def frD (l : List Int) : D := if l = [] then .sl true [] else isD l
theorem fr_cells (l : List Int) : (frD l).cells = [frD l] := by unfold frD; split <;> rfl
theorem fr_aggQ (l : List Int) : aggQ (frD l) = false := by unfold frD; split <;> rfl
theorem fr_noTup (l : List Int) : noTup (frD l) = true := by unfold frD; split <;> rfl
theorem fr_ne {l : List Int} (h : l ≠ []) : frD l = isD l := if_neg h
theorem fr_strip (l : List Int) : strip (frD l) = some (isD l) := by
  unfold frD
  split
  · rename_i h; rw [h]; rfl
  · exact strip_is l
theorem fr_pures (l : List Int) (x : Int) (H : Heap) : pures H [frD l, .int .i64 x] = some ([isD l, .int .i64 x], H) := by
  have h1 : pur 6 H (frD l) = some (isD l, H) := by rw [show (6 : Nat) = 5 + 1 from rfl]; unfold Vm.pur; rw [fr_strip]
  have h2 : pur 6 H (.int .i64 x) = some (.int .i64 x, H) := rfl
  simp only [pures, deepest, purL, h1, h2, Option.bind_some, Option.map_some]
theorem fr_isSome (l : List Int) (x : Int) : (stripL [frD l, .int .i64 x]).isSome = true := by
  simp [stripL, fr_strip, strip]
structure LyAt (rF rS rT rR : Nat) (n : Nfa) (H : Heap) : Prop where
  F : hget H rF = .arr (n.free.map frD)
  S : hget H rS = .arr (n.set.map (.int .u16))
  T : hget H rT = .arr (n.to.map (.int .i64))
  R : hget H rR = .arr (n.rule.map (.int .i64))
  lF : n.free.length = kN n
  lT : n.to.length = kN n
  lR : n.rule.length = kN n
  d1 : rF ≠ rS
  d2 : rF ≠ rT
  d3 : rF ≠ rR
  d4 : rS ≠ rT
  d5 : rS ≠ rR
  d6 : rT ≠ rR
def lyD (rF rS rT rR K : Nat) : D := .agg [.vec rF 0 K, .vec rS 0 K, .vec rT 0 K, .vec rR 0 K]
theorem LyAt.keep {rF rS rT rR : Nat} {n : Nfa} {H H' : Heap} (h : LyAt rF rS rT rR n H) (hF : hget H' rF = hget H rF) (hS : hget H' rS = hget H rS) (hT : hget H' rT = hget H rT) (hR : hget H' rR = hget H rR) : LyAt rF rS rT rR n H' :=
  ⟨hF.trans h.F, hS.trans h.S, hT.trans h.T, hR.trans h.R, h.lF, h.lT, h.lR, h.d1, h.d2, h.d3, h.d4, h.d5, h.d6⟩
theorem LyAt.lt {rF rS rT rR : Nat} {n : Nfa} {H : Heap} (h : LyAt rF rS rT rR n H) : rF < H.length ∧ rS < H.length ∧ rT < H.length ∧ rR < H.length :=
  ⟨lt_of_hget h.F, lt_of_hget h.S, lt_of_hget h.T, lt_of_hget h.R⟩
theorem LyAt.app {rF rS rT rR : Nat} {n : Nfa} {H L : Heap} (h : LyAt rF rS rT rR n H) : LyAt rF rS rT rR n (H ++ L) := by
  obtain ⟨h1, h2, h3, h4⟩ := h.lt
  exact h.keep (hget_app_lt h1) (hget_app_lt h2) (hget_app_lt h3) (hget_app_lt h4)
theorem fr_map_set (fl : List (List Int)) (i : Nat) (x : Int) : (fl.map frD).set i (isD (intoL (fl.getD i []) x)) = (fl.set i (intoL (fl.getD i []) x)).map frD := by
  rw [List.map_set, fr_ne (into_ne _ _)]
theorem LyAt.addI {rF rS rT rR : Nat} {n : Nfa} {H : Heap} (h : LyAt rF rS rT rR n H) (i x : Nat) : LyAt rF rS rT rR (addI n i x) (H.set rF (.arr ((n.free.map frD).set i (isD (intoL (n.free.getD i []) (x : Int)))))) := by
  refine ⟨?_, by rw [hget_set_ne h.d1]; exact h.S, by rw [hget_set_ne h.d2]; exact h.T, by rw [hget_set_ne h.d3]; exact h.R, by simp [W.addI, h.lF, kN], h.lT, h.lR, h.d1, h.d2, h.d3, h.d4, h.d5, h.d6⟩
  rw [hget_set_eq h.lt.1, fr_map_set]; rfl
/-- what lay below stays, but for three objects -/
def But (rF rS rT m : Nat) (H H' : Heap) : Prop := H.length ≤ H'.length ∧ ∀ q, q < m → q ≠ rF → q ≠ rS → q ≠ rT → hget H' q = hget H q
theorem But.refl {rF rS rT m : Nat} {H : Heap} : But rF rS rT m H H := ⟨Nat.le_refl _, fun _ _ _ _ _ => rfl⟩
theorem But.trans {rF rS rT m : Nat} {H H' H'' : Heap} (h : But rF rS rT m H H') (g : But rF rS rT m H' H'') : But rF rS rT m H H'' := ⟨Nat.le_trans h.1 g.1, fun q a b c d => (g.2 q a b c d).trans (h.2 q a b c d)⟩
theorem But.app {rF rS rT m : Nat} {H L : Heap} (h : m ≤ H.length) : But rF rS rT m H (H ++ L) := ⟨by simp, fun q a _ _ _ => hget_app_lt (by omega)⟩
theorem But.setF {rF rS rT m : Nat} {H : Heap} {ob : Ob} : But rF rS rT m H (H.set rF ob) := ⟨by simp, fun q _ b _ _ => hget_set_ne (Ne.symm b)⟩
theorem But.setS {rF rS rT m : Nat} {H : Heap} {ob : Ob} : But rF rS rT m H (H.set rS ob) := ⟨by simp, fun q _ _ b _ => hget_set_ne (Ne.symm b)⟩
theorem But.setT {rF rS rT m : Nat} {H : Heap} {ob : Ob} : But rF rS rT m H (H.set rT ob) := ⟨by simp, fun q _ _ _ b => hget_set_ne (Ne.symm b)⟩
theorem But.le {rF rS rT m k : Nat} {H H' : Heap} (h : But rF rS rT m H H') (hk : k ≤ m) : But rF rS rT k H H' := ⟨h.1, fun q a => h.2 q (by omega)⟩
/-- one more free step, in the machine's lists as they lie -/
theorem step_I {rF rS rT rR : Nat} {n : Nfa} {H : Heap} (h : LyAt rF rS rT rR n H) {i : Nat} (hi : i < kN n) (x : Nat) (hf : fN n ≤ 90000) :
    (n.free.map frD)[i]? = some (frD (n.free.getD i [])) ∧ vecSize H rF 1 = true ∧ PureF Tryz.prog A 43 [isD (n.free.getD i []), .int .i64 x] (isD (intoL (n.free.getD i []) (x : Int))) ∧ rF < H.length := by
  have hil : i < n.free.length := by rw [h.lF]; exact hi
  refine ⟨by simp [List.getD_eq_getElem?_getD, hil], ?_, into_ok _ _ ?_, h.lt.1⟩
  · refine vecSize_of h.F (fun e => ?_) ?_
    · have := congrArg List.length e; simp at this; rw [this] at hil; simp at hil
    · cases hq : n.free with
      | nil => rfl
      | cons y r => simp [headSize, fr_cells]
  · have : (n.free.getD i []).length ≤ fN n := le_fN
    omega
mutual
theorem layN_k : ∀ (r : Rx) (a : Nat) (n : Nfa), kN (layN r a n) = kN n
  | .mk k s l, a, n => by
    rw [layN]
    split
    · simp [kN]
    · simp only
      have h1 := layL_k k a (a + 2 * sizeL l + 1) l (a + 1) a (if k ≠ 2 ∧ k ≠ 3 then addI n a (a + 2 * sizeL l + 1) else n)
      have h2 : kN (if k ≠ 2 ∧ k ≠ 3 then addI n a (a + 2 * sizeL l + 1) else n) = kN n := by split <;> rfl
      split
      · rw [addI_k, h1, h2]
      · rw [h1, h2]
theorem layL_k (k : Int) (a en : Nat) : ∀ (l : List Rx) (next last : Nat) (n : Nfa), kN (layL k a en l next last n).1 = kN n
  | [], _, _, n => rfl
  | r :: l, next, last, n => by
    simp only [layL]
    rw [layL_k k a en l, kidW_k, layN_k r]
theorem kidW_k (k : Int) (a en next kid last : Nat) (n : Nfa) : kN (kidW k a en next kid last n).1 = kN n := by
  unfold kidW
  split
  · rfl
  · split <;> rfl
end
theorem kidW_f (k : Int) (a en next kid last : Nat) (n : Nfa) : fN (kidW k a en next kid last n).1 ≤ fN n + 3 := by
  unfold kidW
  split
  · have := addI_f n last next
    exact Nat.le_trans this (by omega)
  · split
    · have h1 := addI_f n kid next
      have h2 := addI_f (addI n kid next) a next
      have h3 := addI_f (addI (addI n kid next) a next) kid en
      exact Nat.le_trans h3 (by omega)
    · have h1 := addI_f n a next
      have h2 := addI_f (addI n a next) kid en
      exact Nat.le_trans h2 (by omega)
theorem kidW_last (k : Int) (a en next kid last : Nat) (n : Nfa) : (kidW k a en next kid last n).2 = if k = 2 then kid else last := by
  unfold kidW
  split
  · rfl
  · split <;> rfl
mutual
theorem layN_f : ∀ (r : Rx) (a : Nat) (n : Nfa), fN (layN r a n) + 3 ≤ fN n + 5 * sizeR r
  | .mk k s l, a, n => by
    rw [layN]
    simp only [sizeR]
    split
    · show fN n + 3 ≤ _; omega
    · have h1 := layL_f k a (a + 2 * sizeL l + 1) l (a + 1) a (if k ≠ 2 ∧ k ≠ 3 then addI n a (a + 2 * sizeL l + 1) else n)
      have h2 : fN (if k ≠ 2 ∧ k ≠ 3 then addI n a (a + 2 * sizeL l + 1) else n) ≤ fN n + 1 := by
        split
        · exact addI_f _ _ _
        · omega
      split
      · have := addI_f (layL k a (a + 2 * sizeL l + 1) l (a + 1) a (if k ≠ 2 ∧ k ≠ 3 then addI n a (a + 2 * sizeL l + 1) else n)).1 (layL k a (a + 2 * sizeL l + 1) l (a + 1) a (if k ≠ 2 ∧ k ≠ 3 then addI n a (a + 2 * sizeL l + 1) else n)).2 (a + 2 * sizeL l + 1)
        omega
      · omega
theorem layL_f (k : Int) (a en : Nat) : ∀ (l : List Rx) (next last : Nat) (n : Nfa), fN (layL k a en l next last n).1 ≤ fN n + 5 * sizeL l
  | [], _, _, n => by simp [layL]
  | r :: l, next, last, n => by
    simp only [layL, sizeL]
    have h1 := layL_f k a en l (next + 2 * sizeR r) (kidW k a en next (next + 2 * sizeR r - 1) last (layN r next n)).2 (kidW k a en next (next + 2 * sizeR r - 1) last (layN r next n)).1
    have h2 := kidW_f k a en next (next + 2 * sizeR r - 1) last (layN r next n)
    have h3 := layN_f r next n
    have h4 := sizeR_pos r
    omega
end
end Go.Proofs.W
end
/- An expression's steps, laid: the walk. -/
section
set_option maxHeartbeats 4000000
set_option linter.unusedVariables false
set_option linter.unusedSimpArgs false
namespace Go.Proofs.W
open Go Vm Go.Proofs.Zs7z

theorem depth_of_mem {x : Rx} : ∀ {l : List Rx}, x ∈ l → depth x ≤ depthL l
  | y :: l, h => by
    simp only [depthL]
    rcases List.mem_cons.1 h with rfl | h
    · omega
    · have := depth_of_mem h; omega
theorem size_of_mem {x : Rx} : ∀ {l : List Rx}, x ∈ l → sizeR x ≤ sizeL l
  | y :: l, h => by
    simp only [sizeL]
    rcases List.mem_cons.1 h with rfl | h
    · omega
    · have := size_of_mem h; omega
theorem ly_cells (rF rS rT rR K : Nat) : (lyD rF rS rT rR K).cells = [.vec rF 0 K, .vec rS 0 K, .vec rT 0 K, .vec rR 0 K] := rfl
theorem ly_aggQ (rF rS rT rR K : Nat) : aggQ (lyD rF rS rT rR K) = true := rfl
theorem ly_noTup (rF rS rT rR K : Nat) : noTup (lyD rF rS rT rR K) = true := rfl
/-- one more free step: all that the walk asks -/
theorem addI_pack {rF rS rT rR : Nat} {n : Nfa} {H : Heap} (h : LyAt rF rS rT rR n H) {i : Nat} (hi : i < kN n) (x : Nat) (hf : fN n ≤ 90000) :
    ∃ (f v : D) (qs : List D) (Hn : Heap), (n.free.map frD)[i]? = some f ∧ f.cells = [f] ∧ aggQ f = false ∧ noTup f = true ∧ pures H [f, .int .i64 x] = some (qs, H) ∧ (stripL [f, .int .i64 x]).isSome = true ∧ PureF Tryz.prog A 43 qs v ∧ v.cells = [v] ∧ aggQ v = false ∧ noTup v = true ∧
      H.set rF (.arr ((n.free.map frD).set i v)) = Hn ∧ LyAt rF rS rT rR (addI n i x) Hn ∧ (∀ m, But rF rS rT m H Hn) ∧ Hn.length = H.length ∧ (∀ q, q ≠ rF → hget Hn q = hget H q) ∧ vecSize H rF 1 = true := by
  obtain ⟨s1, s2, s3, s4⟩ := step_I h hi x hf
  exact ⟨_, _, _, _, s1, fr_cells _, fr_aggQ _, fr_noTup _, fr_pures _ _ H, fr_isSome _ _, s3, rfl, rfl, rfl, rfl, h.addI i x, fun m => But.setF, by simp, fun q hq => hget_set_ne (Ne.symm hq), s2⟩
theorem lay_ok : ∀ (d : Nat) (r : Rx), depth r ≤ d → d ≤ 12 → okR r → sizeR r ≤ 100 → ∀ (rF rS rT rR : Nat) (n : Nfa) (a : Nat) (H : Heap), LyAt rF rS rT rR n H → a + 2 * sizeR r ≤ kN n → kN n ≤ 10000 → fN n + 5 * sizeR r ≤ 80000 →
    EvF Tryz.prog A 42 [lyD rF rS rT rR (kN n), rxD r, .int .i64 a] H (fun _ H' => LyAt rF rS rT rR (layN r a n) H' ∧ But rF rS rT H.length H H') (fun _ _ => False) := by
  intro d
  induction d with
  | zero => rintro ⟨k, s, l⟩ h; simp [depth] at h
  | succ d ih =>
    rintro ⟨k, s, l⟩ hd hd12 hr hsz rF rS rT rR n a H h ha hK hf
    have hkids : ∀ x ∈ l, _ := fun x hx => ih x (by have := depth_of_mem hx; simp only [depth] at hd; omega) (by omega) (okL_get hr.2.2.2.2.2 x hx) (by have := size_of_mem hx; simp only [sizeR] at hsz; omega)
    have hnk : ∀ x ∈ l, PureF Tryz.prog A 16 [rxD x] (.int .i64 (sizeR x)) := fun x hx => by
      have h1 : sizeR x ≤ 100 := by have := size_of_mem hx; simp only [sizeR] at hsz; omega
      have := nodes_ok 12 x (okL_get hr.2.2.2.2.2 x hx) (by have := depth_of_mem hx; simp only [depth] at hd; omega) (by omega)
      rwa [(nodes_small x).1 h1] at this
    have hn0 := nodes_ok 12 (.mk k s l) hr (by omega) (by omega)
    rw [(nodes_small _).1 hsz] at hn0
    have hst0 := strip1 (strip_rx (.mk k s l))
    obtain ⟨l1, l2, l3, l4⟩ := h.lt
    have hlen : (H ++ [Ob.arr [lyD rF rS rT rR (kN n)]]).length = H.length + 1 := by simp
    have hb : H.length ≤ H.length := Nat.le_refl _
    simp only [sizeR] at hn0 hsz ha hf
    obtain ⟨en, hen⟩ : ∃ en, en = a + 2 * sizeL l + 1 := ⟨_, rfl⟩
    obtain ⟨n1, hn1⟩ : ∃ n1, n1 = if k ≠ 2 ∧ k ≠ 3 then addI n a en else n := ⟨_, rfl⟩
    have hlay : layN (.mk k s l) a n = if k = 1 then { n with set := n.set.set a s, to := n.to.set a (en : Int) } else if k = 2 then addI (layL k a en l (a + 1) a n1).1 (layL k a en l (a + 1) a n1).2 en else (layL k a en l (a + 1) a n1).1 := by
      rw [hn1, hen, layN]
    have hen2 : (a : Int) + 2 * ((sizeL l : Int) + 1) - 1 = (en : Int) := by omega
    rw [hlay]
    have he1 : en ≤ a + 2 * sizeL l + 1 := by omega
    have he2 : a + 2 * sizeL l + 1 ≤ en := by omega
    clear hlay hen
    replace hn1 : Hid (n1 = if k ≠ 2 ∧ k ≠ 3 then addI n a en else n) := hn1
    rw [rx_mk] at hst0 hn0
    have b1 := ly_cells rF rS rT rR (kN n)
    have b2 := ly_aggQ rF rS rT rR (kN n)
    have b3 := ly_noTup rF rS rT rR (kN n)
    obtain ⟨H2, hH2⟩ : ∃ H2, H ++ [Ob.arr [lyD rF rS rT rR (kN n)]] ++ [Ob.arr [D.agg [.int .u8 k, .int .u16 s, .sl false (rxDs l)]]] = H2 := ⟨_, rfl⟩
    have h3 : hget H2 H.length = .arr [lyD rF rS rT rR (kN n)] := by rw [← hH2, hget_app_lt (by simp), hget_new]
    have h4 : hget H2 (H.length + 1) = .arr [D.agg [.int .u8 k, .int .u16 s, .sl false (rxDs l)]] := by rw [← hH2, ← hlen, hget_new]
    have hL2 : LyAt rF rS rT rR n H2 := by rw [← hH2]; exact h.app.app
    have hB2 : But rF rS rT H.length H H2 := by rw [← hH2]; exact (But.app (Nat.le_refl _)).trans (But.app (by simp))
    have hl2 : H2.length = H.length + 2 := by rw [← hH2]; simp
    have p1 : rF ≠ H.length ∧ rS ≠ H.length ∧ rT ≠ H.length ∧ rF ≠ H.length + 1 ∧ rS ≠ H.length + 1 ∧ rT ≠ H.length + 1 := by omega
    generalize hgp : H.length = p at *
    have hgp1 : p ≤ H.length := by omega
    have hgp2 : H.length ≤ p := by omega
    have hl2a : H2.length ≤ p + 2 := by omega
    have hl2b : p + 2 ≤ H2.length := by omega
    have hgl := hgp
    clear hl2 hlen hb h l1 l2 l3 l4
    refine evF_inB (n := 167) (rs := []) Tryz.func42 rfl rfl rfl rfl rfl rfl ?_
    repeat' (first | refine wz1 ?_ | refine wz2 ?_ | refine wz3 ?_ | refine wz4 ?_ | refine wz5 ?_ | refine wz6 ?_ | simp -dsimp (maxSteps:=999999) (disch:=omega) only[go_sem,simprocAttr, *,rx_mk] | ((first | refine wz8 (fun hh => ?_) (fun hh => ?_) | refine wz9 (fun hh => ?_) (fun hh => ?_) | refine wpB_cond (by simp -dsimp (maxSteps:=999999) (disch:=omega) only[go_sem,simprocAttr, *,rx_mk]; exact rfl) (fun hh => ?_) (fun hh => ?_)) <;> (try replace hh := vqs hh) <;> (try (exfalso; first | exact hh | omega))))
    refine evB_plain bo16 rfl rfl hst0 hn0 ?_
    simp -dsimp (maxSteps:=999999) (disch:=omega) only[go_sem,simprocAttr, *]
    by_cases hk1 : k = 1
    · have hSz : vecSize H2 rS 1 = true := vecSize_of hL2.S (fun e => by have := congrArg List.length e; simp only [List.length_map, List.length_nil, kN] at this ha; omega) (headU16 _)
      have hSa : (n.set.map (D.int .u16))[a]? = some (.int .u16 (n.set.getD a 0)) := by
        have : a < n.set.length := by simp only [kN] at ha; omega
        simp [List.getD_eq_getElem?_getD, this]
      have hlS := hL2.lt.2.1
      have hT2 : hget (H2.set rS (.arr ((n.set.map (D.int .u16)).set a (.int .u16 s)))) rT = .arr (n.to.map (.int .i64)) := by rw [hget_set_ne hL2.d4]; exact hL2.T
      have hTz : vecSize (H2.set rS (.arr ((n.set.map (D.int .u16)).set a (.int .u16 s)))) rT 1 = true := vecSize_of hT2 (fun e => by have := congrArg List.length e; have := hL2.lT; simp only [List.length_map, List.length_nil, kN] at *; omega) (headInts _)
      have hTa : (n.to.map (D.int .i64))[a]? = some (.int .i64 (n.to.getD a 0)) := by
        have : a < n.to.length := by have := hL2.lT; omega
        simp [List.getD_eq_getElem?_getD, this]
      have h3' : hget (H2.set rS (.arr ((n.set.map (D.int .u16)).set a (.int .u16 s)))) p = .arr [lyD rF rS rT rR (kN n)] := by rw [hget_set_ne p1.2.1]; exact h3
      have hfin : LyAt rF rS rT rR { n with set := n.set.set a s, to := n.to.set a (en : Int) } ((H2.set rS (.arr ((n.set.map (D.int .u16)).set a (.int .u16 s)))).set rT (.arr ((n.to.map (D.int .i64)).set a (.int .i64 en)))) := by
        refine ⟨by rw [hget_set_ne (Ne.symm hL2.d2), hget_set_ne (Ne.symm hL2.d1)]; exact hL2.F, ?_, ?_, by rw [hget_set_ne hL2.d6, hget_set_ne hL2.d5]; exact hL2.R, ?_, ?_, ?_, hL2.d1, hL2.d2, hL2.d3, hL2.d4, hL2.d5, hL2.d6⟩
        · rw [hget_set_ne (Ne.symm hL2.d4), hget_set_eq hlS, List.map_set]
        · rw [hget_set_eq (by simpa using hL2.lt.2.2.1), List.map_set]
        · have := hL2.lF; simpa [kN] using this
        · have := hL2.lT; simpa [kN] using this
        · have := hL2.lR; simpa [kN] using this
      have hBf : But rF rS rT p H ((H2.set rS (.arr ((n.set.map (D.int .u16)).set a (.int .u16 s)))).set rT (.arr ((n.to.map (D.int .i64)).set a (.int .i64 en)))) := (hB2.trans But.setS).trans But.setT
      have hS2 := hL2.S
      have haK : a < kN n := by omega
      rw [if_pos hk1]
      clear ih hkids hnk hn0 hst0 hL2 hB2 hH2
      subst hk1
      repeat' (first | refine wz1 ?_ | refine wz2 ?_ | refine wz3 ?_ | refine wz4 ?_ | refine wz5 ?_ | refine wz6 ?_ | simp -dsimp (maxSteps:=999999) (disch:=omega) only[go_sem,simprocAttr, *] | ((first | refine wz8 (fun hh => ?_) (fun hh => ?_) | refine wz9 (fun hh => ?_) (fun hh => ?_) | refine wz7 (fun hh => ?_) (fun hh => ?_)) <;> (try replace hh := vqs hh) <;> (try (exfalso; first | exact hh | omega))))
      all_goals exact ⟨hfin, hBf⟩
    rw [if_neg hk1]
    refine wz1 ?_
    refine wz1 ?_
    refine wz2 ?_
    simp -dsimp (maxSteps:=999999) (disch:=omega) only[go_sem,simprocAttr, *]
    refine wz7 (fun hh => ?_) (fun hh => ?_)
    · exact absurd hh (by simp)
    refine wz4 ?_
    simp -dsimp (maxSteps:=999999) (disch:=omega) only[go_sem,simprocAttr, *]
    refine wpB_mid (fun e H3 => LyAt rF rS rT rR n1 H3 ∧ But rF rS rT p H H3 ∧ p + 2 ≤ H3.length ∧ hget H3 p = .arr [lyD rF rS rT rR (kN n)] ∧ hget H3 (p + 1) = .arr [D.agg [.int .u8 k, .int .u16 s, .sl false (rxDs l)]] ∧ e 2 = .int .i64 a ∧ e 3 = .ptr p 0 0 ∧ e 4 = .ptr (p + 1) 0 0 ∧ e 6 = .int .i64 en) ?_ ?_
    · intro R hR
      by_cases c23 : k ≠ 2 ∧ k ≠ 3
      · have hn1' : n1 = addI n a en := by rw [show n1 = _ from hn1, if_pos c23]
        obtain ⟨s1, s2, s3, s4⟩ := step_I hL2 (i := a) (by omega) en (by omega)
        have hp := fr_pures (n.free.getD a []) (en : Int) H2
        have hps := fr_isSome (n.free.getD a []) (en : Int)
        have hLn := hL2.addI a en
        have hBn : But rF rS rT p H (H2.set rF (.arr ((n.free.map frD).set a (isD (intoL (n.free.getD a []) (en : Int)))))) := hB2.trans But.setF
        have hF2 := hL2.F
        have f1 := fr_cells (n.free.getD a [])
        have f2 := fr_aggQ (n.free.getD a [])
        have f3 := fr_noTup (n.free.getD a [])
        have g3 : hget (H2.set rF (.arr ((n.free.map frD).set a (isD (intoL (n.free.getD a []) (en : Int)))))) p = _ := (hget_set_ne p1.1).trans h3
        have g4 : hget (H2.set rF (.arr ((n.free.map frD).set a (isD (intoL (n.free.getD a []) (en : Int)))))) (p + 1) = _ := (hget_set_ne p1.2.2.2.1).trans h4
        have haK : a < kN n := by omega
        have gl : p + 2 ≤ (H2.set rF (.arr ((n.free.map frD).set a (isD (intoL (n.free.getD a []) (en : Int)))))).length := by simpa using hl2b
        rw [← hn1'] at hLn
        obtain ⟨c2, c3⟩ := c23
        generalize hq : isD (intoL (n.free.getD a []) (en : Int)) = q at *
        have q1 : q.cells = [q] := by rw [← hq]; rfl
        have q2 : aggQ q = false := by rw [← hq]; rfl
        have q3 : noTup q = true := by rw [← hq]; rfl
        clear ih hkids hnk hn0 hst0 hL2 hB2 hH2 hn1 hq
        generalize hob : H2.set rF (.arr ((n.free.map frD).set a q)) = H3 at *
        repeat' (first | refine wz1 ?_ | refine wz2 ?_ | refine wz3 ?_ | refine wz4 ?_ | refine wz5 ?_ | refine wz6 ?_ | simp -dsimp (maxSteps:=999999) (disch:=omega) only[go_sem,simprocAttr, *] | ((first | refine wz8 (fun hh => ?_) (fun hh => ?_) | refine wz9 (fun hh => ?_) (fun hh => ?_) | refine wz7 (fun hh => ?_) (fun hh => ?_)) <;> (try replace hh := vqs hh) <;> (try (exfalso; first | exact hh | omega))))
        refine wpB_regionXL (prs := []) (by kernel_rfl) rfl (by kernel_rfl) ?_; simp -dsimp (maxSteps:=999999) (disch:=omega) only[go_sem,simprocAttr, *]
        refine evB_pureK bo43 rfl rfl hp s3 ?_
        intro H4 hH4
        obtain rfl : H4 = H2 := by rcases hH4 with h | h <;> exact h
        repeat' (first | refine wz1 ?_ | refine wz2 ?_ | refine wz3 ?_ | refine wz4 ?_ | refine wz5 ?_ | refine wz6 ?_ | simp -dsimp (maxSteps:=999999) (disch:=omega) only[go_sem,simprocAttr, *] | ((first | refine wz8 (fun hh => ?_) (fun hh => ?_) | refine wz9 (fun hh => ?_) (fun hh => ?_) | refine wz7 (fun hh => ?_) (fun hh => ?_)) <;> (try replace hh := vqs hh) <;> (try (exfalso; first | exact hh | omega))))
        refine hR _ _ ⟨hLn, hBn, gl, g3, g4, gs, gs, gs, gs⟩
      · have hn1' : n1 = n := by rw [show n1 = _ from hn1, if_neg c23]
        rw [hn1'] at hR
        have hk23 : k = 2 ∨ k = 3 := by
          by_cases h2 : k = 2
          · exact .inl h2
          · exact .inr (by by_cases h3 : k = 3; exact h3; exact absurd ⟨h2, h3⟩ c23)
        clear ih hkids hnk hn0 hst0 hH2 hn1 c23 hn1'
        rcases hk23 with rfl | rfl
        · repeat' (first | refine wz1 ?_ | refine wz2 ?_ | refine wz3 ?_ | refine wz4 ?_ | refine wz5 ?_ | refine wz6 ?_ | simp -dsimp (maxSteps:=999999) (disch:=omega) only[go_sem,simprocAttr, *] | ((first | refine wz8 (fun hh => ?_) (fun hh => ?_) | refine wz9 (fun hh => ?_) (fun hh => ?_) | refine wz7 (fun hh => ?_) (fun hh => ?_)) <;> (try replace hh := vqs hh) <;> (try (exfalso; first | exact hh | omega))))
          refine hR _ _ ⟨hL2, hB2, hl2b, h3, h4, gs, gs, gs, gs⟩
        · repeat' (first | refine wz1 ?_ | refine wz2 ?_ | refine wz3 ?_ | refine wz4 ?_ | refine wz5 ?_ | refine wz6 ?_ | simp -dsimp (maxSteps:=999999) (disch:=omega) only[go_sem,simprocAttr, *] | ((first | refine wz8 (fun hh => ?_) (fun hh => ?_) | refine wz9 (fun hh => ?_) (fun hh => ?_) | refine wz7 (fun hh => ?_) (fun hh => ?_)) <;> (try replace hh := vqs hh) <;> (try (exfalso; first | exact hh | omega))))
          refine hR _ _ ⟨hL2, hB2, hl2b, h3, h4, gs, gs, gs, gs⟩
    · have hk1n : kN n1 = kN n := by rw [show n1 = _ from hn1]; split <;> rfl
      have hf1 : fN n1 ≤ fN n + 1 := by
        rw [show n1 = _ from hn1]
        split
        · exact addI_f n a en
        · omega
      clear hn1 h3 h4 hL2 hB2 hH2 hl2a hl2b hen2 hn0 hst0
      rintro e H3 ⟨hL3, hB3, hl3, h3, h4, e2, e3, e4, e6⟩
      generalize hG : layL k a en l (a + 1) a n1 = G
      have hG0 : G = layL k a en (l.drop 0) (a + 1) a n1 := hG.symm
      have hsz0 : a + 1 + 2 * sizeL (l.drop 0) ≤ en := by rw [List.drop_zero]; omega
      have hfz0 : fN n1 + 5 * sizeL (l.drop 0) ≤ 80000 := by rw [List.drop_zero]; omega
      have hll : l.length ≤ 1000 := by have := len_size l; omega
      clear hG
      repeat' (first | refine wz1 ?_ | refine wz2 ?_ | refine wz3 ?_ | refine wz4 ?_ | refine wz5 ?_ | refine wz6 ?_ | simp -dsimp (maxSteps:=999999) (disch:=omega) only[go_sem,simprocAttr, *] | ((first | refine wz8 (fun hh => ?_) (fun hh => ?_) | refine wz9 (fun hh => ?_) (fun hh => ?_) | refine wz7 (fun hh => ?_) (fun hh => ?_)) <;> (try replace hh := vqs hh) <;> (try (exfalso; first | exact hh | omega))))
      refine wpB_loop (fun e Hj => ∃ (j nx la : Nat) (nj : Nfa), j ≤ l.length ∧ LyAt rF rS rT rR nj Hj ∧ But rF rS rT p H Hj ∧ p + 2 ≤ Hj.length ∧ hget Hj p = .arr [lyD rF rS rT rR (kN n)] ∧ hget Hj (p + 1) = .arr [D.agg [.int .u8 k, .int .u16 s, .sl false (rxDs l)]] ∧ kN nj = kN n ∧ la < kN n ∧ a + 1 ≤ nx ∧ nx + 2 * sizeL (l.drop j) ≤ en ∧ fN nj + 5 * sizeL (l.drop j) ≤ 80000 ∧ G = layL k a en (l.drop j) nx la nj ∧ e 2 = .int .i64 a ∧ e 3 = .ptr p 0 0 ∧ e 4 = .ptr (p + 1) 0 0 ∧ e 6 = .int .i64 en ∧ e 7 = .int .i64 nx ∧ e 8 = .int .i64 la ∧ e 9 = .int .i64 j) (fun e H => l.length - natOf (e 9)) ?_ ?_
      · exact ⟨0, a + 1, a, n1, by omega, hL3, hB3, hl3, h3, h4, hk1n, by omega, by omega, hsz0, hfz0, hG0, gs, gs, gs, gs, gs, gs, gs⟩
      clear hL3 hB3 hl3 h3 h4 e2 e3 e4 e6 hG0 hsz0 hfz0 hk1n hf1
      rintro e Hj ⟨j, nx, la, nj, hj, hL, hB, hl, h3, h4, hkj, hla, hnx, hsz, hfz, hG, e2, e3, e4, e6, e7, e8, e9⟩ R hR
      by_cases hb : j < l.length
      · have hxm := List.getElem_mem hb
        have hx : (rxDs l)[j]? = some (rxD l[j]) := by rw [rxDs_at, List.getElem?_eq_getElem hb]; rfl
        have hkx := hkids l[j] hxm rF rS rT rR nj nx Hj hL
        have hnx1 := hnk l[j] hxm
        rw [List.drop_eq_getElem_cons hb] at hsz hfz hG
        simp only [sizeL] at hsz hfz
        have hdr : sizeL (l.drop (j + 1)) = sizeL (l.drop (j + 1)) := rfl
        rw [layL] at hG
        have hxp := sizeR_pos l[j]
        have hst := strip1 (strip_rx l[j])
        have c1 := rx_cells l[j]
        have c2 := rx_aggQ l[j]
        have c3 := rx_noTup l[j]
        generalize l[j] = x at *
        have hkx2 := hkx (by omega) (by omega) (by omega)
        rw [hkj] at hkx2
        obtain ⟨kd, hkd⟩ : ∃ kd, kd = nx + 2 * sizeR x - 1 := ⟨_, rfl⟩
        rw [← hkd] at hG
        have hkd1 : kd + 1 ≤ nx + 2 * sizeR x := by omega
        have hkd2 : nx + 2 * sizeR x ≤ kd + 1 := by omega
        have hkd3 : (nx : Int) + 2 * (sizeR x : Int) - 1 = (kd : Int) := by omega
        have hkk : nx + 2 * sizeR x = kd + 1 := by omega
        rw [hkk] at hG
        clear hkk
        have hnf := layN_f x nx nj
        have hnk2 := layN_k x nx nj
        rw [hkj] at hnk2
        clear hkd hkx ih hkids hnk hL hdr
        repeat' (first | refine wz1 ?_ | refine wz2 ?_ | refine wz3 ?_ | refine wz4 ?_ | refine wz5 ?_ | refine wz6 ?_ | simp -dsimp (maxSteps:=999999) (disch:=omega) only[go_sem,simprocAttr, *] | ((first | refine wz8 (fun hh => ?_) (fun hh => ?_) | refine wz9 (fun hh => ?_) (fun hh => ?_) | refine wz7 (fun hh => ?_) (fun hh => ?_)) <;> (try replace hh := vqs hh) <;> (try (exfalso; first | exact hh | omega))))
        refine wpB_regionXL (prs := []) (by kernel_rfl) rfl (by kernel_rfl) ?_; simp -dsimp (maxSteps:=999999) (disch:=omega) only[go_sem,simprocAttr, *]
        refine ⟨fun h => Bool.noConfusion (show false = true from h), evB_state bo42 rfl rfl hkx2 ?_ (fun _ _ h => h.elim)⟩
        rintro _ H4 ⟨hL4, hB4⟩
        generalize layN x nx nj = n4 at *
        have hB5 := hB.trans (hB4.le (show p ≤ Hj.length by omega))
        have h35 := (hB4.2 p (by omega) (Ne.symm p1.1) (Ne.symm p1.2.1) (Ne.symm p1.2.2.1)).trans h3
        have h45 := (hB4.2 (p + 1) (by omega) (Ne.symm p1.2.2.2.1) (Ne.symm p1.2.2.2.2.1) (Ne.symm p1.2.2.2.2.2)).trans h4
        have hl5 := hB4.1
        clear hkx2 hB hB4 h3 h4
        have hF4 := hL4.F
        have hkw := kidW_f k a en nx kd la n4
        have hkw2 := kidW_k k a en nx kd la n4
        have hkw3 := kidW_last k a en nx kd la n4
        repeat' (first | refine wz1 ?_ | refine wz2 ?_ | refine wz3 ?_ | refine wz4 ?_ | refine wz5 ?_ | refine wz6 ?_ | simp -dsimp (maxSteps:=999999) (disch:=omega) only[go_sem,simprocAttr, *] | ((first | refine wz8 (fun hh => ?_) (fun hh => ?_) | refine wz9 (fun hh => ?_) (fun hh => ?_) | refine wz7 (fun hh => ?_) (fun hh => ?_)) <;> (try replace hh := vqs hh) <;> (try (exfalso; first | exact hh | omega))))
        refine evB_plain bo16 rfl rfl hst hnx1 ?_
        by_cases hk2 : k = 2
        · have hkd : kidW k a en nx kd la n4 = (addI n4 la nx, kd) := by rw [kidW, if_pos hk2]
          rw [hkd] at hG hkw
          simp only at hG hkw
          obtain ⟨f, v, qs, Hn, s1, s2, s3, s4, s5, s6, s7, s8, s9, s10, s11, s12, s13, s14, s15, s16⟩ := addI_pack hL4 (i := la) (by omega) nx (by omega)
          have g3 := (s15 p (Ne.symm p1.1)).trans h35
          have g4 := (s15 (p + 1) (Ne.symm p1.2.2.2.1)).trans h45
          have gB := hB5.trans (s13 p)
          clear hkd hkw2 hkw3 hB5 hL4
          repeat' (first | refine wz1 ?_ | refine wz2 ?_ | refine wz3 ?_ | refine wz4 ?_ | refine wz5 ?_ | refine wz6 ?_ | simp -dsimp (maxSteps:=999999) (disch:=omega) only[go_sem,simprocAttr, *] | ((first | refine wz8 (fun hh => ?_) (fun hh => ?_) | refine wz9 (fun hh => ?_) (fun hh => ?_) | refine wz7 (fun hh => ?_) (fun hh => ?_)) <;> (try replace hh := vqs hh) <;> (try (exfalso; first | exact hh | omega))))
          refine wpB_regionXL (prs := []) (by kernel_rfl) rfl (by kernel_rfl) ?_; simp -dsimp (maxSteps:=999999) (disch:=omega) only[go_sem,simprocAttr, *]
          refine evB_pureK bo43 rfl rfl s5 s7 ?_
          intro H6 hH6
          obtain rfl : H6 = H4 := by rcases hH6 with h | h <;> exact h
          repeat' (first | refine wz1 ?_ | refine wz2 ?_ | refine wz3 ?_ | refine wz4 ?_ | refine wz5 ?_ | refine wz6 ?_ | simp -dsimp (maxSteps:=999999) (disch:=omega) only[go_sem,simprocAttr, *] | ((first | refine wz8 (fun hh => ?_) (fun hh => ?_) | refine wz9 (fun hh => ?_) (fun hh => ?_) | refine wz7 (fun hh => ?_) (fun hh => ?_)) <;> (try replace hh := vqs hh) <;> (try (exfalso; first | exact hh | omega))))
          refine hR _ _ ⟨j + 1, kd + 1, kd, addI n4 la nx, by omega, s12, gB, by omega, g3, g4, by rw [addI_k]; omega, by omega, by omega, by omega, by omega, hG, gs, gs, gs, gs, gs, gs, gs⟩ ?_
          simp -dsimp (maxSteps:=999999) (disch:=omega) only[go_sem,simprocAttr, *,natOf_int]
        by_cases hk4 : k = 4
        · have hkd : kidW k a en nx kd la n4 = (addI (addI (addI n4 kd nx) a nx) kd en, la) := by rw [kidW, if_neg hk2, if_pos hk4]
          rw [hkd] at hG hkw
          simp only at hG hkw
          have q1 := addI_f n4 kd nx
          have q2 := addI_f (addI n4 kd nx) a nx
          obtain ⟨f1, v1, qs1, H1x, s11, s12, s13, s14, s15, s16, s17, s18, s19, s110, s111, s112, s113, s114, s115, s116⟩ := addI_pack hL4 (i := kd) (by (try simp only [addI_k]); omega) nx (by omega)
          have g13 := (s115 p (Ne.symm p1.1)).trans h35
          have g14 := (s115 (p + 1) (Ne.symm p1.2.2.2.1)).trans h45
          have g1B := hB5.trans (s113 p)
          have g1F := s112.F
          obtain ⟨f2, v2, qs2, H2x, s21, s22, s23, s24, s25, s26, s27, s28, s29, s210, s211, s212, s213, s214, s215, s216⟩ := addI_pack s112 (i := a) (by (try simp only [addI_k]); omega) nx (by omega)
          have g23 := (s215 p (Ne.symm p1.1)).trans g13
          have g24 := (s215 (p + 1) (Ne.symm p1.2.2.2.1)).trans g14
          have g2B := g1B.trans (s213 p)
          have g2F := s212.F
          obtain ⟨f3, v3, qs3, H3x, s31, s32, s33, s34, s35, s36, s37, s38, s39, s310, s311, s312, s313, s314, s315, s316⟩ := addI_pack s212 (i := kd) (by (try simp only [addI_k]); omega) en (by omega)
          have g33 := (s315 p (Ne.symm p1.1)).trans g23
          have g34 := (s315 (p + 1) (Ne.symm p1.2.2.2.1)).trans g24
          have g3B := g2B.trans (s313 p)
          have g3F := s312.F
          clear hkd hkw2 hkw3 hB5 hL4 g1B g2B
          repeat' (first | refine wz1 ?_ | refine wz2 ?_ | refine wz3 ?_ | refine wz4 ?_ | refine wz5 ?_ | refine wz6 ?_ | simp -dsimp (maxSteps:=999999) (disch:=omega) only[go_sem,simprocAttr, *] | ((first | refine wz8 (fun hh => ?_) (fun hh => ?_) | refine wz9 (fun hh => ?_) (fun hh => ?_) | refine wz7 (fun hh => ?_) (fun hh => ?_)) <;> (try replace hh := vqs hh) <;> (try (exfalso; first | exact hh | omega))))
          refine wpB_regionXL (prs := []) (by kernel_rfl) rfl (by kernel_rfl) ?_; simp -dsimp (maxSteps:=999999) (disch:=omega) only[go_sem,simprocAttr, *]
          refine evB_pureK bo43 rfl rfl s15 s17 ?_
          intro H6 hH6
          obtain rfl : H6 = H4 := by rcases hH6 with h | h <;> exact h
          repeat' (first | refine wz1 ?_ | refine wz2 ?_ | refine wz3 ?_ | refine wz4 ?_ | refine wz5 ?_ | refine wz6 ?_ | simp -dsimp (maxSteps:=999999) (disch:=omega) only[go_sem,simprocAttr, *] | ((first | refine wz8 (fun hh => ?_) (fun hh => ?_) | refine wz9 (fun hh => ?_) (fun hh => ?_) | refine wz7 (fun hh => ?_) (fun hh => ?_)) <;> (try replace hh := vqs hh) <;> (try (exfalso; first | exact hh | omega))))
          refine wpB_regionXL (prs := []) (by kernel_rfl) rfl (by kernel_rfl) ?_; simp -dsimp (maxSteps:=999999) (disch:=omega) only[go_sem,simprocAttr, *]
          refine evB_pureK bo43 rfl rfl s25 s27 ?_
          intro H6 hH6
          obtain rfl : H6 = H1x := by rcases hH6 with h | h <;> exact h
          repeat' (first | refine wz1 ?_ | refine wz2 ?_ | refine wz3 ?_ | refine wz4 ?_ | refine wz5 ?_ | refine wz6 ?_ | simp -dsimp (maxSteps:=999999) (disch:=omega) only[go_sem,simprocAttr, *] | ((first | refine wz8 (fun hh => ?_) (fun hh => ?_) | refine wz9 (fun hh => ?_) (fun hh => ?_) | refine wz7 (fun hh => ?_) (fun hh => ?_)) <;> (try replace hh := vqs hh) <;> (try (exfalso; first | exact hh | omega))))
          refine wpB_regionXL (prs := []) (by kernel_rfl) rfl (by kernel_rfl) ?_; simp -dsimp (maxSteps:=999999) (disch:=omega) only[go_sem,simprocAttr, *]
          refine evB_pureK bo43 rfl rfl s35 s37 ?_
          intro H6 hH6
          obtain rfl : H6 = H2x := by rcases hH6 with h | h <;> exact h
          repeat' (first | refine wz1 ?_ | refine wz2 ?_ | refine wz3 ?_ | refine wz4 ?_ | refine wz5 ?_ | refine wz6 ?_ | simp -dsimp (maxSteps:=999999) (disch:=omega) only[go_sem,simprocAttr, *] | ((first | refine wz8 (fun hh => ?_) (fun hh => ?_) | refine wz9 (fun hh => ?_) (fun hh => ?_) | refine wz7 (fun hh => ?_) (fun hh => ?_)) <;> (try replace hh := vqs hh) <;> (try (exfalso; first | exact hh | omega))))
          refine hR _ _ ⟨j + 1, kd + 1, la, addI (addI (addI n4 kd nx) a nx) kd en, by omega, s312, g3B, by omega, g33, g34, by simp only [addI_k]; omega, by omega, by omega, by omega, by omega, hG, gs, gs, gs, gs, gs, gs, gs⟩ ?_
          simp -dsimp (maxSteps:=999999) (disch:=omega) only[go_sem,simprocAttr, *,natOf_int]
        · have hkd : kidW k a en nx kd la n4 = (addI (addI n4 a nx) kd en, la) := by rw [kidW, if_neg hk2, if_neg hk4]
          rw [hkd] at hG hkw
          simp only at hG hkw
          have q1 := addI_f n4 a nx
          obtain ⟨f1, v1, qs1, H1x, s11, s12, s13, s14, s15, s16, s17, s18, s19, s110, s111, s112, s113, s114, s115, s116⟩ := addI_pack hL4 (i := a) (by (try simp only [addI_k]); omega) nx (by omega)
          have g13 := (s115 p (Ne.symm p1.1)).trans h35
          have g14 := (s115 (p + 1) (Ne.symm p1.2.2.2.1)).trans h45
          have g1B := hB5.trans (s113 p)
          have g1F := s112.F
          obtain ⟨f2, v2, qs2, H2x, s21, s22, s23, s24, s25, s26, s27, s28, s29, s210, s211, s212, s213, s214, s215, s216⟩ := addI_pack s112 (i := kd) (by (try simp only [addI_k]); omega) en (by omega)
          have g23 := (s215 p (Ne.symm p1.1)).trans g13
          have g24 := (s215 (p + 1) (Ne.symm p1.2.2.2.1)).trans g14
          have g2B := g1B.trans (s213 p)
          have g2F := s212.F
          clear hkd hkw2 hkw3 hB5 hL4 g1B
          repeat' (first | refine wz1 ?_ | refine wz2 ?_ | refine wz3 ?_ | refine wz4 ?_ | refine wz5 ?_ | refine wz6 ?_ | simp -dsimp (maxSteps:=999999) (disch:=omega) only[go_sem,simprocAttr, *] | ((first | refine wz8 (fun hh => ?_) (fun hh => ?_) | refine wz9 (fun hh => ?_) (fun hh => ?_) | refine wz7 (fun hh => ?_) (fun hh => ?_)) <;> (try replace hh := vqs hh) <;> (try (exfalso; first | exact hh | omega))))
          refine wpB_regionXL (prs := []) (by kernel_rfl) rfl (by kernel_rfl) ?_; simp -dsimp (maxSteps:=999999) (disch:=omega) only[go_sem,simprocAttr, *]
          refine evB_pureK bo43 rfl rfl s15 s17 ?_
          intro H6 hH6
          obtain rfl : H6 = H4 := by rcases hH6 with h | h <;> exact h
          repeat' (first | refine wz1 ?_ | refine wz2 ?_ | refine wz3 ?_ | refine wz4 ?_ | refine wz5 ?_ | refine wz6 ?_ | simp -dsimp (maxSteps:=999999) (disch:=omega) only[go_sem,simprocAttr, *] | ((first | refine wz8 (fun hh => ?_) (fun hh => ?_) | refine wz9 (fun hh => ?_) (fun hh => ?_) | refine wz7 (fun hh => ?_) (fun hh => ?_)) <;> (try replace hh := vqs hh) <;> (try (exfalso; first | exact hh | omega))))
          refine wpB_regionXL (prs := []) (by kernel_rfl) rfl (by kernel_rfl) ?_; simp -dsimp (maxSteps:=999999) (disch:=omega) only[go_sem,simprocAttr, *]
          refine evB_pureK bo43 rfl rfl s25 s27 ?_
          intro H6 hH6
          obtain rfl : H6 = H1x := by rcases hH6 with h | h <;> exact h
          repeat' (first | refine wz1 ?_ | refine wz2 ?_ | refine wz3 ?_ | refine wz4 ?_ | refine wz5 ?_ | refine wz6 ?_ | simp -dsimp (maxSteps:=999999) (disch:=omega) only[go_sem,simprocAttr, *] | ((first | refine wz8 (fun hh => ?_) (fun hh => ?_) | refine wz9 (fun hh => ?_) (fun hh => ?_) | refine wz7 (fun hh => ?_) (fun hh => ?_)) <;> (try replace hh := vqs hh) <;> (try (exfalso; first | exact hh | omega))))
          refine hR _ _ ⟨j + 1, kd + 1, la, addI (addI n4 a nx) kd en, by omega, s212, g2B, by omega, g23, g24, by simp only [addI_k]; omega, by omega, by omega, by omega, by omega, hG, gs, gs, gs, gs, gs, gs, gs⟩ ?_
          simp -dsimp (maxSteps:=999999) (disch:=omega) only[go_sem,simprocAttr, *,natOf_int]
      · rw [List.drop_eq_nil_of_le (by omega)] at hG
        have hG' : G = (nj, la) := hG
        clear hG ih hkids hnk
        rw [hG']
        simp only
        by_cases hk2 : k = 2
        · rw [if_pos hk2]
          obtain ⟨f, v, qs, Hn, s1, s2, s3, s4, s5, s6, s7, s8, s9, s10, s11, s12, s13, s14, s15, s16⟩ := addI_pack hL (i := la) (by omega) en (by omega)
          have gB := hB.trans (s13 p)
          have hF := hL.F
          clear hL hB hG'
          repeat' (first | refine wz1 ?_ | refine wz2 ?_ | refine wz3 ?_ | refine wz4 ?_ | refine wz5 ?_ | refine wz6 ?_ | simp -dsimp (maxSteps:=999999) (disch:=omega) only[go_sem,simprocAttr, *] | ((first | refine wz8 (fun hh => ?_) (fun hh => ?_) | refine wz9 (fun hh => ?_) (fun hh => ?_) | refine wz7 (fun hh => ?_) (fun hh => ?_)) <;> (try replace hh := vqs hh) <;> (try (exfalso; first | exact hh | omega))))
          refine wpB_regionXL (prs := []) (by kernel_rfl) rfl (by kernel_rfl) ?_; simp -dsimp (maxSteps:=999999) (disch:=omega) only[go_sem,simprocAttr, *]
          refine evB_pureK bo43 rfl rfl s5 s7 ?_
          intro H6 hH6
          obtain rfl : H6 = Hj := by rcases hH6 with h | h <;> exact h
          repeat' (first | refine wz1 ?_ | refine wz2 ?_ | refine wz3 ?_ | refine wz4 ?_ | refine wz5 ?_ | refine wz6 ?_ | simp -dsimp (maxSteps:=999999) (disch:=omega) only[go_sem,simprocAttr, *] | ((first | refine wz8 (fun hh => ?_) (fun hh => ?_) | refine wz9 (fun hh => ?_) (fun hh => ?_) | refine wz7 (fun hh => ?_) (fun hh => ?_)) <;> (try replace hh := vqs hh) <;> (try (exfalso; first | exact hh | omega))))
          all_goals exact ⟨s12, gB⟩
        · rw [if_neg hk2]
          clear hG'
          repeat' (first | refine wz1 ?_ | refine wz2 ?_ | refine wz3 ?_ | refine wz4 ?_ | refine wz5 ?_ | refine wz6 ?_ | simp -dsimp (maxSteps:=999999) (disch:=omega) only[go_sem,simprocAttr, *] | ((first | refine wz8 (fun hh => ?_) (fun hh => ?_) | refine wz9 (fun hh => ?_) (fun hh => ?_) | refine wz7 (fun hh => ?_) (fun hh => ?_)) <;> (try replace hh := vqs hh) <;> (try (exfalso; first | exact hh | omega))))
          all_goals exact ⟨hL, hB⟩
end Go.Proofs.W
end
/- Regions whose new objects have their places ahead: how a proof steps through one. -/
section
set_option linter.unusedVariables false
set_option linter.unusedSimpArgs false
namespace Vm
open Go
def bareAll (o : Op) (e : Env) : Bool := o.operands.toList.all (bareX e)
section
variable {P : Program} {A : Ann} {N : Nat}
/-- one operation there -/
def vOpP (P : Program) (A : Ann) (b : Bool) (p : Nat) (o : Op) (e : Env) (H : Heap) (K : D → Heap → Prop) : Prop :=
  if b = true then bareAll o e = true ∧ (match placeR (stepOp P A noCall o e []) H p with
    | some (.ok d H') => K d H'
    | _ => False)
  else vOpX A o e H (fun _ _ => True) ∧ vOpZ P A o e H K
def upB (b : Bool) (p : Nat) : Nat := p + if b then 1 else 0
def vOpsP (P : Program) (A : Ann) (N : Nat) (ops : Array Oper) : Nat → List Oper → Env → Heap → (Env → Heap → Prop) → Prop
  | _, [], e, H, K => (pairsD A ops).all (disjE e) = true ∧ K e H
  | p, o :: rest, e, H, K => dstOk N o.dst = true ∧ match wantD ops e o with
    | some true => vOpP P A (placedO A o.op) p o.op e H (fun d H' => vOpsP P A N ops (upB (placedO A o.op) p) rest (putO e o.dst d) H' K)
    | some false => vOpsP P A N ops (upB (placedO A o.op) p) rest (putO e o.dst ud) H K
    | none => False
theorem vOpP_step {p : Nat} {o : Op} {e : Env} {H : Heap} {K : D → Heap → Prop} (h : vOpP P A (placedO A o) p o e H K) : ∃ k d H', stepZ P A (runF P A k) (some p) o e H = some (.ok d H') ∧ K d H' := by
  unfold vOpP at h
  by_cases hp : placedO A o = true
  · rw [if_pos hp] at h
    obtain ⟨h1, h2⟩ := h
    cases hs : stepOp P A noCall o e [] with
    | none => rw [hs] at h2; exact h2.elim
    | some r =>
      rw [hs] at h2
      cases hr : placeR (some r) H p with
      | none => rw [hr] at h2; exact h2.elim
      | some x =>
        rw [hr] at h2
        cases x with
        | pan d H' => exact h2.elim
        | ok d H' =>
          refine ⟨0, d, H', ?_, h2⟩
          simp only [stepZ, if_pos hp]
          rw [if_pos (show o.operands.toList.all (bareX e) = true from h1), stepOp_mono (noCall_le _) hs, hr]
  · rw [if_neg hp] at h
    obtain ⟨k, d, H', h1, h2⟩ := vOpZ_step h.1 h.2
    refine ⟨k, d, H', ?_, h2⟩
    simp only [stepZ, if_neg hp]
    exact h1
theorem vOpsP_run {ops : Array Oper} : ∀ {l : List Oper} {p : Nat} {e : Env} {H : Heap} {K : Env → Heap → Prop}, vOpsP P A N ops p l e H K →
    ∃ k s, runOpsP P A (runF P A k) N ops p l e H = some s ∧ s.ex = .norm ∧ K s.e s.H
  | [], p, e, H, K, h => ⟨0, ⟨.norm, e, H⟩, by simp only [runOpsP]; rw [if_pos h.1], rfl, h.2⟩
  | o :: r, p, e, H, K, h => by
    obtain ⟨hd, h⟩ := h
    have hd' : ¬ dstOk N o.dst = false := by simp [hd]
    cases hw : wantD ops e o with
    | none => simp [hw] at h
    | some b =>
      cases b with
      | false =>
        simp only [hw] at h
        obtain ⟨k, s, h1, h2⟩ := vOpsP_run h
        exact ⟨k, s, by simp only [runOpsP, if_neg hd', hw]; exact h1, h2⟩
      | true =>
        simp only [hw] at h
        obtain ⟨k, d, H', h1, h2⟩ := vOpP_step h
        obtain ⟨k2, s, h3, h4⟩ := vOpsP_run h2
        refine ⟨max k k2, s, ?_, h4⟩
        simp only [runOpsP, if_neg hd', hw, stepZ_mono (runF_le (Nat.le_max_left k k2)) h1]
        exact runOpsP_mono (runF_le (Nat.le_max_right k k2)) h3
theorem wpc_regionP {id : Nat} {ops : Array Oper} {e : Env} {H : Heap} {Q : Ex → Env → Heap → Prop} (hn : lexD A ops = false) (hl : lexP A ops = true) (h : vOpsP P A N ops H.length ops.toList e (H ++ List.replicate (placesN A ops.toList) .dead) (fun e H => Q .norm e H)) : WpC P A N (.region id ops true) e H Q := by
  obtain ⟨k, s, h1, h2, h3⟩ := vOpsP_run h
  exact ⟨k, s, by simp only [runC, if_true, hn, Bool.false_eq_true, if_false, hl]; exact h1, by rw [h2]; exact h3⟩
def bareO : Option D → Bool
  | some d => bareD d
  | none => false
theorem bareX_eq {e : Env} {x : Operand} : bareX e x = bareO (evalO e x) := by unfold bareX bareO; cases evalO e x <;> rfl
theorem bareO_some {d : D} : bareO (some d) = bareD d := rfl
def bareR (e : Env) : Option Operand → Bool
  | none => true
  | some x => bareX e x
theorem bareR_none {e : Env} : bareR e none = true := rfl
theorem bareR_some {e : Env} {x : Operand} : bareR e (some x) = bareX e x := rfl
def bareP (e : Env) : List (Nat × Operand) → Bool
  | [] => true
  | q :: r => bareX e q.2 && bareP e r
theorem bareP_nil {e : Env} : bareP e [] = true := rfl
theorem bareP_cons {e : Env} {i : Nat} {x : Operand} {r : List (Nat × Operand)} : bareP e ((i, x) :: r) = (bareX e x && bareP e r) := rfl
theorem placedO_move (x : Operand) : placedO A (.move x) = false := rfl
theorem placedO_assign (x : Operand) : placedO A (.assign x) = false := rfl
theorem placedO_pick (x y z : Operand) : placedO A (.pick x y z) = false := rfl
theorem placedO_build (t : TypeId) (ps : Array (Nat × Operand)) : placedO A (.build t ps) = false := rfl
theorem placedO_load (t : TypeId) (x : Operand) : placedO A (.load t x) = false := rfl
theorem placedO_store (t : TypeId) (x y : Operand) : placedO A (.store t x y) = false := rfl
theorem placedO_nilCheck (x : Operand) : placedO A (.nilCheck x) = false := rfl
theorem placedO_binOp (o : BinOp) (t : TypeId) (x y : Operand) (s : TypeId) : placedO A (.binOp o t x y s) = false := rfl
theorem placedO_unOp (o : UnOp) (t : TypeId) (x : Operand) : placedO A (.unOp o t x) = false := rfl
theorem placedO_convert (s t : TypeId) (x : Operand) : placedO A (.convert s t x) = false := rfl
theorem placedO_makeInterface (t : TypeId) (x : Operand) : placedO A (.makeInterface t x) = false := rfl
theorem placedO_makeFunc (f : Fn) (x y : Array Operand) : placedO A (.makeFunc f x y) = false := rfl
theorem placedO_slice (t : TypeId) (x : Operand) (l h m : Option Operand) : placedO A (.slice t x l h m) = false := rfl
theorem placedO_fieldAddr (t : TypeId) (x : Operand) (f : Nat) : placedO A (.fieldAddr t x f) = false := rfl
theorem placedO_field (t : TypeId) (x : Operand) (f : Nat) : placedO A (.field t x f) = false := rfl
theorem placedO_indexAddr (t : TypeId) (x y : Operand) : placedO A (.indexAddr t x y) = false := rfl
theorem placedO_index (t : TypeId) (x y : Operand) : placedO A (.index t x y) = false := rfl
theorem placedO_lookup (t : TypeId) (x y : Operand) (b : Bool) : placedO A (.lookup t x y b) = false := rfl
theorem placedO_mapUpdate (t : TypeId) (x y z : Operand) : placedO A (.mapUpdate t x y z) = false := rfl
theorem placedO_typeAssert (x : Operand) (s t : TypeId) (b : Bool) : placedO A (.typeAssert x s t b) = false := rfl
theorem placedO_extract (x : Operand) (i : Nat) : placedO A (.extract x i) = false := rfl
theorem placedO_panic (x : Operand) : placedO A (.panic x) = false := rfl
theorem placedO_call (c : Call) : placedO A (.call c) = false := rfl
theorem placedO_alloc (t : TypeId) : placedO A (.alloc t) = true := rfl
theorem placedO_box (t : TypeId) (x : Operand) : placedO A (.box t x) = true := rfl
theorem placedO_makeSlice (t : TypeId) (x y : Operand) : placedO A (.makeSlice t x y) = true := rfl
theorem placedO_makeMap (t : TypeId) (r : Option Operand) : placedO A (.makeMap t r) = true := rfl
theorem placedO_buildSlice (t : TypeId) (n : Nat) (ps : Array (Nat × Operand)) : placedO A (.buildSlice t n ps) = !A.fz t := rfl
theorem bareAll_alloc (t : TypeId) {e : Env} : bareAll (.alloc t) e = true := rfl
theorem bareAll_box (t : TypeId) (x : Operand) {e : Env} : bareAll (.box t x) e = bareX e x := by simp [bareAll, Op.operands]
theorem bareAll_makeSlice (t : TypeId) (x y : Operand) {e : Env} : bareAll (.makeSlice t x y) e = (bareX e x && bareX e y) := by simp [bareAll, Op.operands]
theorem bareAll_makeMap (t : TypeId) (r : Option Operand) {e : Env} : bareAll (.makeMap t r) e = bareR e r := by cases r <;> simp [bareAll, Op.operands, bareR]
theorem bareAll_buildSlice (t : TypeId) (n : Nat) (ps : Array (Nat × Operand)) {e : Env} : bareAll (.buildSlice t n ps) e = bareP e ps.toList := by
  simp only [bareAll, Op.operands]
  induction ps.toList with
  | nil => rfl
  | cons q r ih => simp only [List.map_cons, List.all_cons, bareP, ih]
def vOpPB (b : Bool) (P : Program) (A : Ann) (p : Nat) (o : Op) (e : Env) (H : Heap) (K : D → Heap → Prop) : TyP K := vOpP P A b p o e H K
theorem vOpPB_true {p : Nat} {o : Op} {e : Env} {H : Heap} {K : D → Heap → Prop} : @Eq Prop (vOpPB true P A p o e H K) (bareAll o e = true ∧ outB (placeR (stepOp P A noCall o e []) H p) K (fun _ _ => False)) := by
  show (bareAll o e = true ∧ (match placeR (stepOp P A noCall o e []) H p with
    | some (.ok d H') => K d H'
    | _ => False)) = _
  unfold outB
  cases placeR (stepOp P A noCall o e []) H p with
  | none => rfl
  | some r => cases r <;> rfl
theorem vOpPB_false {p : Nat} {o : Op} {e : Env} {H : Heap} {K : D → Heap → Prop} : @Eq Prop (vOpPB false P A p o e H K) (plainX A o e H ∧ vOpZB P A o e H K) := by
  show (vOpX A o e H (fun _ _ => True) ∧ vOpZ P A o e H K) = _
  rw [plainX_of]
  unfold vOpZB
  rfl
theorem vOpZB_build (t : TypeId) (ps : Array (Nat × Operand)) {e : Env} {H : Heap} {K : D → Heap → Prop} : @Eq Prop (vOpZB P A (.build t ps) e H K) (vOpB P A (.build t ps) e H K (fun _ _ => False)) := by
  unfold vOpZB vOpB
  rfl
theorem upB_true {p : Nat} : upB true p = p + 1 := rfl
theorem upB_false {p : Nat} : upB false p = p := rfl
def placeD (b : Bool) (d : Option D) (H : Heap) (p : Nat) (ob : Ob) : Option R := if b then d.map fun d => .ok d (H.set p ob) else none
theorem placeD_true {d : D} {H : Heap} {p : Nat} {ob : Ob} : placeD true (some d) H p ob = some (.ok d (H.set p ob)) := rfl
theorem placeR_one {d : D} {ob : Ob} {H : Heap} {p : Nat} : placeR (some (.ok d [ob])) H p = placeD (bareOb ob && decide (p < H.length) && deadQ (hget H p)) (moveTo p d) H p ob := by
  show (if bareOb ob = true ∧ p < H.length ∧ deadQ (hget H p) = true then (moveTo p d).map fun d => R.ok d (H.set p ob) else none) = _
  unfold placeD
  by_cases h : bareOb ob = true ∧ p < H.length ∧ deadQ (hget H p) = true
  · rw [if_pos h]; simp [h.1, h.2.1, h.2.2]
  · rw [if_neg h, if_neg]
    intro h'
    simp only [Bool.and_eq_true, decide_eq_true_eq] at h'
    exact h ⟨h'.1.1, h'.1.2, h'.2⟩
def placeS (b : Bool) (d : D) (H : Heap) : Option R := if b then some (.ok d H) else none
theorem placeS_true {d : D} {H : Heap} : placeS true d H = some (.ok d H) := rfl
theorem placeR_none {d : D} {H : Heap} {p : Nat} : placeR (some (.ok d [])) H p = placeS (bareD d) d H := by
  unfold placeR placeS; rfl
theorem bareL_rep {n : Nat} {z : D} (h : bareD z = true) : bareL (List.replicate n z) = true := by
  induction n with
  | zero => rfl
  | succ n ih => simp only [List.replicate_succ, bareL, h, ih, Bool.and_self]
theorem bareD_int {k : IntKind} {n : Int} : bareD (.int k n) = true := rfl
theorem bareD_bool {b : Bool} : bareD (.bool b) = true := rfl
theorem bareD_str {s : List UInt8} : bareD (.str s) = true := rfl
theorem bareD_sl {f : Bool} {xs : List D} : bareD (.sl f xs) = bareL xs := rfl
theorem bareD_agg {xs : List D} : bareD (.agg xs) = bareL xs := rfl
theorem bareD_nilm : bareD .nilm = true := rfl
theorem bareD_nilp : bareD .nilp = true := rfl
theorem bareD_nili : bareD .nili = true := rfl
theorem bareD_niln : bareD .niln = true := rfl
theorem bareL_nil : bareL [] = true := rfl
theorem bareL_cons {d : D} {r : List D} : bareL (d :: r) = (bareD d && bareL r) := rfl
theorem bareOb_arr {xs : List D} : bareOb (.arr xs) = bareL xs := rfl
theorem deadQ_dead : deadQ .dead = true := rfl
theorem moveTo_vec {p o n : Nat} : moveTo p (.vec 0 o n) = some (.vec p o n) := rfl
theorem moveTo_ptr {p i j : Nat} : moveTo p (.ptr 0 i j) = some (.ptr p i j) := rfl
theorem moveTo_map {p : Nat} : moveTo p (.map 0) = some (.map p) := rfl
def vOpsPC (P : Program) (A : Ann) (N : Nat) (S : List (Option Nat)) (prs : List (List Nat × List Nat)) : Nat → List Oper → Env → Heap → (Env → Heap → Prop) → Prop
  | _, [], e, H, K => pairsP e prs ∧ K e H
  | p, o :: rest, e, H, K => dstOk N o.dst = true ∧ match wantG S e o.guard with
    | some true => vOpP P A (placedO A o.op) p o.op e H (fun d H' => vOpsPC P A N S prs (upB (placedO A o.op) p) rest (putO e o.dst d) H' K)
    | some false => vOpsPC P A N S prs (upB (placedO A o.op) p) rest (putO e o.dst ud) H K
    | none => False
theorem vOpsPC_eq {all : List Oper} : ∀ {l : List Oper} {p : Nat} {e : Env} {H : Heap} {K : Env → Heap → Prop}, vOpsPC P A N (all.map (·.dst)) (pairsD A all.toArray) p l e H K = vOpsP P A N all.toArray p l e H K
  | [], p, e, H, K => by simp only [vOpsPC, vOpsP, pairsP_iff]
  | o :: l, p, e, H, K => by
    have ih : ∀ p e H, vOpsPC P A N (all.map (·.dst)) (pairsD A all.toArray) p l e H K = vOpsP P A N all.toArray p l e H K := fun p e H => vOpsPC_eq
    simp only [vOpsPC, vOpsP, wantD_eq, ih]
def vOpsPB (P : Program) (A : Ann) (N : Nat) (S : List (Option Nat)) (prs : List (List Nat × List Nat)) (p : Nat) (l : List Oper) (e : Env) (H : Heap) (K : Env → Heap → Prop) : TyP (S, prs, l, K) := vOpsPC P A N S prs p l e H K
def stepsPB (w : Option Bool) (P : Program) (A : Ann) (N : Nat) (S : List (Option Nat)) (prs : List (List Nat × List Nat)) (p : Nat) (o : Oper) (rest : List Oper) (e : Env) (H : Heap) (K : Env → Heap → Prop) : TyP (S, prs, o, rest, K) :=
  match w with
  | some true => vOpP P A (placedO A o.op) p o.op e H (fun d H' => vOpsPC P A N S prs (upB (placedO A o.op) p) rest (putO e o.dst d) H' K)
  | some false => vOpsPC P A N S prs (upB (placedO A o.op) p) rest (putO e o.dst ud) H K
  | none => False
section
variable {S : List (Option Nat)} {prs : List (List Nat × List Nat)} {o : Oper} {rest : List Oper} {e : Env} {H : Heap} {K : Env → Heap → Prop} {p : Nat}
theorem vOpsPB_nil : @Eq Prop (vOpsPB P A N S prs p [] e H K) (pairsP e prs ∧ K e H) := rfl
theorem vOpsPB_cons : @Eq Prop (vOpsPB P A N S prs p (o :: rest) e H K) ((dstOk N o.dst = true ∧ stepsPB (wantG S e o.guard) P A N S prs p o rest e H K)) := rfl
theorem stepsPB_run : @Eq Prop (stepsPB (some true) P A N S prs p o rest e H K) (vOpPB (placedO A o.op) P A p o.op e H (fun d H' => vOpsPB P A N S prs (upB (placedO A o.op) p) rest (putO e o.dst d) H' K)) := rfl
theorem stepsPB_skip : @Eq Prop (stepsPB (some false) P A N S prs p o rest e H K) (vOpsPB P A N S prs (upB (placedO A o.op) p) rest (putO e o.dst ud) H K) := rfl
end
theorem wpB_regionPL {id : Nat} {l : List Oper} {S : List (Option Nat)} {e : Env} {H : Heap} {Q : Ex → Env → Heap → Prop} (hn : lexD A l.toArray = false) (hl : lexP A l.toArray = true) {prs : List (List Nat × List Nat)} (hS : l.map (·.dst) = S) (hp : pairsD A l.toArray = prs) {m : Nat} (hm : placesN A l = m) (h : vOpsPB P A N S prs H.length l e (H ++ List.replicate m .dead) (fun e H => Q .norm e H)) : WpB P A N (.region id l.toArray true) e H Q := by
  subst hS hp hm
  have h' : vOpsP P A N l.toArray H.length l e (H ++ List.replicate (placesN A l) .dead) (fun e H => Q .norm e H) := by rw [← vOpsPC_eq]; exact h
  rw [← wpB_of]
  exact wpc_regionP hn hl (by simpa using h')
end
attribute [irreducible] vOpPB vOpsPB stepsPB
attribute [go_sem ↓] vOpPB_true vOpPB_false vOpsPB_nil vOpsPB_cons stepsPB_run stepsPB_skip
attribute [go_sem] vOpZB_build bareX_eq bareO_some bareR_none bareR_some bareP_nil bareP_cons upB_true upB_false placeD_true placeR_one placeS_true placeR_none bareL_rep bareD_int bareD_bool bareD_str bareD_sl bareD_agg bareD_nilm bareD_nilp bareD_nili bareD_niln bareL_nil bareL_cons bareOb_arr deadQ_dead moveTo_vec moveTo_ptr moveTo_map placedO_move placedO_assign placedO_pick placedO_build placedO_load placedO_store placedO_nilCheck placedO_binOp placedO_unOp placedO_convert placedO_makeInterface placedO_makeFunc placedO_slice placedO_fieldAddr placedO_field placedO_indexAddr placedO_index placedO_lookup placedO_mapUpdate placedO_typeAssert placedO_extract placedO_panic placedO_call placedO_alloc placedO_box placedO_makeSlice placedO_makeMap placedO_buildSlice bareAll_alloc bareAll_box bareAll_makeSlice bareAll_makeMap bareAll_buildSlice
attribute [go_sem] vOpPB_true vOpPB_false vOpsPB_nil vOpsPB_cons stepsPB_run stepsPB_skip
end Vm
end
/- The document's machine of expressions: the walk. -/
section
set_option maxHeartbeats 4000000
set_option linter.unusedVariables false
set_option linter.unusedSimpArgs false
namespace Go.Proofs.W
open Go Vm Go.Proofs.Zs7z

def zeroN (K : Nat) : Nfa := ⟨List.replicate K [], List.replicate K 0, List.replicate K 0, List.replicate K (-1)⟩
def refFrom : List Rx → Nat → Nat → Nfa → Nfa
  | [], _, _, n => n
  | r :: l, i, a, n => refFrom l (i + 1) (a + 2 * sizeR r) (setRule (addI (layN r a n) 0 a) (a + 2 * sizeR r - 1) (i : Int))
def refN (l : List Rx) : Option Nfa := if l.length ≤ 16 ∧ l ≠ [] ∧ l.all rightR = true then some (refFrom l 0 1 (zeroN (1 + 2 * sizeL l))) else none
def refD : Option Nfa → D
  | some n => .tup [nfaD n, .bool true]
  | none => .tup [nfaD emptyN, .bool false]
theorem fr_rows : ∀ (fl : List (List Int)) (k : Nat) (H : Heap), purL (pur (k + 1)) H (fl.map frD) = some (fl.map isD, H)
  | [], k, H => rfl
  | x :: fl, k, H => by
    have h1 : pur (k + 1) H (frD x) = some (isD x, H) := by unfold Vm.pur; rw [fr_strip]
    simp only [List.map_cons, purL, h1, Option.bind_some, fr_rows fl k H, Option.map_some]
theorem out_ly {rF rS rT rR : Nat} {n : Nfa} {H : Heap} (h : LyAt rF rS rT rR n H) (b : Bool) : outPure H (.tup [lyD rF rS rT rR (kN n), .bool b]) = some (.tup [nfaD n, .bool b]) := by
  have vF : VecA (.vec rF 0 (kN n)) H (n.free.map frD) := .inr ⟨rF, by simp [h.lF], .inl h.F, h.lt.1⟩
  have vS : VecA (.vec rS 0 (kN n)) H (n.set.map (.int .u16)) := .inr ⟨rS, by simp [kN], .inl h.S, h.lt.2.1⟩
  have vT : VecA (.vec rT 0 (kN n)) H (n.to.map (.int .i64)) := .inr ⟨rT, by simp [h.lT], .inl h.T, h.lt.2.2.1⟩
  have vR : VecA (.vec rR 0 (kN n)) H (n.rule.map (.int .i64)) := .inr ⟨rR, by simp [h.lR], .inl h.R, h.lt.2.2.2⟩
  obtain ⟨H1, p1, s1, l1⟩ := pur_lift (k := 3) vF (fun H1 h1 h2 => ⟨H1, fr_rows n.free 2 H1, Soft.refl, Nat.le_refl _⟩) (fun e => by
    have : n.free = [] := by simpa using e
    rw [this]; rfl)
  obtain ⟨H2, p2, s2, l2⟩ := pur_plainA (k := 2) (vS.soft s1 l1) (strip_u16s _)
  obtain ⟨H3, p3, s3, l3⟩ := pur_plainA (k := 2) (vT.soft (s1.trans s2) (by omega)) (strip_ints _)
  obtain ⟨H4, p4, s4, l4⟩ := pur_plainA (k := 2) (vR.soft ((s1.trans s2).trans s3) (by omega)) (strip_ints _)
  have hnone : stripL [D.vec rF 0 (kN n), .vec rS 0 (kN n), .vec rT 0 (kN n), .vec rR 0 (kN n)] = none := rfl
  have hnone2 : stripL [lyD rF rS rT rR (kN n), .bool b] = none := rfl
  unfold outPure deepest
  rw [pur_tup hnone2]
  simp only [purL]
  rw [lyD, pur_agg' hnone]
  simp only [purL, p1, p2, p3, p4, Option.bind_some, Option.map_some]
  rw [pur_strip (show strip (.bool b) = some (.bool b) from rfl)]
  rfl
theorem mkS (t e : TypeId) (w K : Nat) (z : D) (he : elemT Tryz.prog t = some e) (hn : sizeT Tryz.prog e = some 1) (hw : bytesT Tryz.prog e = some w) (hz : zeroT Tryz.prog e = some z) (hzn : z.cells.length = 1) (hK : 0 < K) (hK2 : K * w ≤ 140737488355328) (hK3 : K ≤ 100000) : makeSliceD Tryz.prog t (.int .i64 K) (.int .i64 K) [] = some (.vec 0 0 K, [.arr (List.replicate K z)]) := by
  simp only [makeSliceD, he, hn, hw, hz, Option.bind_some, Int.toNat_natCast]
  rw [if_pos ⟨by omega, by omega, by simpa [mostBytes] using hK2, by omega, hzn⟩, if_neg (by omega)]
  rfl
theorem zrN4 : zeroT Tryz.prog 53 = some (.agg [.sl true [], .sl true [], .sl true [], .sl true []]) := by kernel_rfl
theorem bdN4 : buildD Tryz.prog 53 [] = some (.agg [.sl true [], .sl true [], .sl true [], .sl true []]) := by kernel_rfl
theorem bdN5 (K : Nat) : buildD Tryz.prog 53 [(0, .vec 1 0 K), (1, .vec 2 0 K), (2, .vec 3 0 K), (3, .vec 4 0 K)] = some (lyD 1 2 3 4 K) := by kernel_rfl
set_option maxRecDepth 20000 in
theorem refbuild_ok (l : List Rx) (hl : ∀ (i : Nat) (h : i < l.length), i < 16 → okR l[i]) (hll : l.length ≤ 100000) : PureF Tryz.prog A 21 [rxsD l] (refD (refN l)) := by
  generalize hG : refN l = G
  replace hG : Hid (G = refN l) := hG.symm
  refine evF_inB (n := 94) (rs := [.cell 2 53, .tmp 3]) Tryz.func21 rfl rfl rfl rfl rfl rfl ?_
  repeat' (first | refine wz1 ?_ | refine wz2 ?_ | refine wz3 ?_ | refine wz4 ?_ | refine wz5 ?_ | refine wz6 ?_ | simp -dsimp (maxSteps:=999999) (disch:=omega) only[go_sem,simprocAttr, *,rxsD, zrN4] | ((first | refine wz8 (fun hh => ?_) (fun hh => ?_) | refine wz9 (fun hh => ?_) (fun hh => ?_) | refine wpB_cond (by simp -dsimp (maxSteps:=999999) (disch:=omega) only[go_sem,simprocAttr, *,rxsD, zrN4]; exact rfl) (fun hh => ?_) (fun hh => ?_)) <;> (try replace hh := vqs hh) <;> (try (exfalso; first | exact hh | omega))))
  refine wpB_loop (fun e H => ∃ j : Nat, j ≤ l.length ∧ j ≤ 16 ∧ H = [Ob.arr [.agg [.sl true [], .sl true [], .sl true [], .sl true []]]] ∧ e 0 = rxsD l ∧ e 2 = .ptr 0 0 0 ∧ e 4 = .int .i64 (1 + 2 * sizeL (l.take j) : Nat) ∧ e 5 = .int .i64 j ∧ sizeL (l.take j) ≤ 100 * j ∧ (l.take j).all rightR = true) (fun e H => l.length - natOf (e 5)) ?_ ?_
  · exact ⟨0, by omega, by omega, rfl, by simp -dsimp (maxSteps:=999999) (disch:=omega) only[go_sem,simprocAttr, *,rxsD], gs, by rw [List.take_zero]; simp -dsimp (maxSteps:=999999) (disch:=omega) only[go_sem,simprocAttr, *,sizeL], gs, by simp [sizeL], by simp⟩
  rintro e H ⟨j, hj, hj16, rfl, e0, e2, e4, e5, hsz, hall⟩ R hR
  by_cases hb : j < l.length
  · by_cases h16 : j < 16
    case neg =>
      have hz : G = none := by rw [show G = _ from hG, refN, if_neg (fun h => by have := h.1; omega)]
      rw [hz]
      repeat' (first | refine wz1 ?_ | refine wz2 ?_ | refine wz3 ?_ | refine wz4 ?_ | refine wz5 ?_ | refine wz6 ?_ | simp -dsimp (maxSteps:=999999) (disch:=omega) only[go_sem,simprocAttr, *,rxsD, bdN4] | ((first | refine wz8 (fun hh => ?_) (fun hh => ?_) | refine wz9 (fun hh => ?_) (fun hh => ?_) | refine wpB_cond (by simp -dsimp (maxSteps:=999999) (disch:=omega) only[go_sem,simprocAttr, *,rxsD, bdN4]; exact rfl) (fun hh => ?_) (fun hh => ?_)) <;> (try replace hh := vqs hh) <;> (try (exfalso; first | exact hh | omega))))
      exact outPure_strip rfl
    have hx : (rxDs l)[j]? = some (rxD l[j]) := by rw [rxDs_at, List.getElem?_eq_getElem hb]; rfl
    have hok := hl j hb h16
    have hRt := right_ok l[j] hok
    have hN := fun (h2 : depth l[j] ≤ 12) => nodes_ok 12 l[j] hok h2 (by omega)
    have hst := strip1 (strip_rx l[j])
    have c1 := rx_cells l[j]
    have c2 := rx_aggQ l[j]
    have c3 := rx_noTup l[j]
    have htk := take_succ' hb
    cases hrt : rightR l[j] with
    | false =>
      have hz : G = none := by
        rw [show G = _ from hG, refN, if_neg (fun h => ?_)]
        have := List.all_eq_true.1 h.2.2 _ (List.getElem_mem hb)
        rw [hrt] at this; cases this
      rw [hz]
      rw [hrt] at hRt
      clear hN htk hok
      generalize rxD l[j] = dk at *
      repeat' (first | refine wz1 ?_ | refine wz2 ?_ | refine wz3 ?_ | refine wz4 ?_ | refine wz5 ?_ | refine wz6 ?_ | simp -dsimp (maxSteps:=999999) (disch:=omega) only[go_sem,simprocAttr, *,rxsD] | ((first | refine wz8 (fun hh => ?_) (fun hh => ?_) | refine wz9 (fun hh => ?_) (fun hh => ?_) | refine wpB_cond (by simp -dsimp (maxSteps:=999999) (disch:=omega) only[go_sem,simprocAttr, *,rxsD]; exact rfl) (fun hh => ?_) (fun hh => ?_)) <;> (try replace hh := vqs hh) <;> (try (exfalso; first | exact hh | omega))))
      refine evB_plain bo15 rfl rfl hst hRt ?_
      repeat' (first | refine wz1 ?_ | refine wz2 ?_ | refine wz3 ?_ | refine wz4 ?_ | refine wz5 ?_ | refine wz6 ?_ | simp -dsimp (maxSteps:=999999) (disch:=omega) only[go_sem,simprocAttr, *,bdN4] | ((first | refine wz8 (fun hh => ?_) (fun hh => ?_) | refine wz9 (fun hh => ?_) (fun hh => ?_) | refine wpB_cond (by simp -dsimp (maxSteps:=999999) (disch:=omega) only[go_sem,simprocAttr, *,bdN4]; exact rfl) (fun hh => ?_) (fun hh => ?_)) <;> (try replace hh := vqs hh) <;> (try (exfalso; first | exact hh | omega))))
      exact outPure_strip rfl
    | true =>
      have hrn : depth l[j] ≤ 12 ∧ nodesR l[j] ≤ 100 := by
        simp only [rightR, Bool.and_eq_true, decide_eq_true_eq] at hrt
        exact hrt.1
      have hns := (nodes_size l[j]).1 hrn.2
      have hN2 := hN hrn.1
      rw [(nodes_small l[j]).1 hns] at hN2
      have hall2 : (l.take (j + 1)).all rightR = true := by rw [htk, List.all_append, hall]; simp [hrt]
      have hs2 : sizeL (l.take (j + 1)) = sizeL (l.take j) + sizeR l[j] := by rw [htk, sizeL_app]; simp [sizeL]
      rw [hrt] at hRt
      clear hN htk hok hall hrn
      generalize sizeL (l.take j) = sj at *
      generalize sizeR l[j] = sx at *
      generalize rxD l[j] = dk at *
      repeat' (first | refine wz1 ?_ | refine wz2 ?_ | refine wz3 ?_ | refine wz4 ?_ | refine wz5 ?_ | refine wz6 ?_ | simp -dsimp (maxSteps:=999999) (disch:=omega) only[go_sem,simprocAttr, *,rxsD] | ((first | refine wz8 (fun hh => ?_) (fun hh => ?_) | refine wz9 (fun hh => ?_) (fun hh => ?_) | refine wpB_cond (by simp -dsimp (maxSteps:=999999) (disch:=omega) only[go_sem,simprocAttr, *,rxsD]; exact rfl) (fun hh => ?_) (fun hh => ?_)) <;> (try replace hh := vqs hh) <;> (try (exfalso; first | exact hh | omega))))
      refine evB_plain bo15 rfl rfl hst hRt ?_
      repeat' (first | refine wz1 ?_ | refine wz2 ?_ | refine wz3 ?_ | refine wz4 ?_ | refine wz5 ?_ | refine wz6 ?_ | simp -dsimp (maxSteps:=999999) (disch:=omega) only[go_sem,simprocAttr, *,rxsD] | ((first | refine wz8 (fun hh => ?_) (fun hh => ?_) | refine wz9 (fun hh => ?_) (fun hh => ?_) | refine wpB_cond (by simp -dsimp (maxSteps:=999999) (disch:=omega) only[go_sem,simprocAttr, *,rxsD]; exact rfl) (fun hh => ?_) (fun hh => ?_)) <;> (try replace hh := vqs hh) <;> (try (exfalso; first | exact hh | omega))))
      refine evB_plain bo16 rfl rfl hst hN2 ?_
      repeat' (first | refine wz1 ?_ | refine wz2 ?_ | refine wz3 ?_ | refine wz4 ?_ | refine wz5 ?_ | refine wz6 ?_ | simp -dsimp (maxSteps:=999999) (disch:=omega) only[go_sem,simprocAttr, *] | ((first | refine wz8 (fun hh => ?_) (fun hh => ?_) | refine wz9 (fun hh => ?_) (fun hh => ?_) | refine wz7 (fun hh => ?_) (fun hh => ?_)) <;> (try replace hh := vqs hh) <;> (try (exfalso; first | exact hh | omega))))
      refine hR _ _ ⟨j + 1, by omega, by omega, gs, by simp -dsimp (maxSteps:=999999) (disch:=omega) only[go_sem,simprocAttr, *,rxsD], gs, ?_, gs, by omega, hall2⟩ ?_
      · rw [hs2]
        simp -dsimp (maxSteps:=999999) (disch:=omega) only[go_sem,simprocAttr, *]
        congr 1
        omega
      · simp -dsimp (maxSteps:=999999) (disch:=omega) only[go_sem,simprocAttr, *,natOf_int]
  · rw [List.take_of_length_le (by omega)] at hsz hall e4
    by_cases hne : l = []
    · have hz : G = none := by rw [show G = _ from hG, refN, if_neg (fun h => h.2.1 hne)]
      rw [hz]
      subst hne
      clear hR
      repeat' (first | refine wz1 ?_ | refine wz2 ?_ | refine wz3 ?_ | refine wz4 ?_ | refine wz5 ?_ | refine wz6 ?_ | simp -dsimp (maxSteps:=999999) (disch:=omega) only[go_sem,simprocAttr, *,rxsD, bdN4] | ((first | refine wz8 (fun hh => ?_) (fun hh => ?_) | refine wz9 (fun hh => ?_) (fun hh => ?_) | refine wpB_cond (by simp -dsimp (maxSteps:=999999) (disch:=omega) only[go_sem,simprocAttr, *,rxsD, bdN4]; exact rfl) (fun hh => ?_) (fun hh => ?_)) <;> (try replace hh := vqs hh) <;> (try (exfalso; first | exact hh | omega))))
      exact outPure_strip rfl
    · have h16 : l.length ≤ 16 := by omega
      have hz : G = some (refFrom l 0 1 (zeroN (1 + 2 * sizeL l))) := by rw [show G = _ from hG, refN, if_pos ⟨h16, hne, hall⟩]
      have hlen0 : 0 < l.length := by cases l with | nil => exact absurd rfl hne | cons _ _ => simp
      have hok : ∀ r ∈ l, okR r := fun r hr => by
        obtain ⟨i, hi, rfl⟩ := List.mem_iff_getElem.1 hr
        exact hl i hi (by omega)
      have hrt : ∀ r ∈ l, depth r ≤ 12 ∧ sizeR r ≤ 100 := fun r hr => by
        have := List.all_eq_true.1 hall r hr
        simp only [rightR, Bool.and_eq_true, decide_eq_true_eq] at this
        exact ⟨this.1.1, (nodes_size r).1 this.1.2⟩
      obtain ⟨K, hK⟩ : ∃ K, K = 1 + 2 * sizeL l := ⟨_, rfl⟩
      rw [← hK] at hz e4
      have hK1 : K ≤ 1 + 2 * sizeL l := by omega
      have hK2 : 1 + 2 * sizeL l ≤ K := by omega
      rw [hz]
      have m1 := mkS 50 26 24 K (.sl true []) el50 sz26 by26 zr26 rfl (by omega) (by omega) (by omega)
      have m2 := mkS 51 38 2 K (.int .u16 0) el51 sz38 by38 zr38 rfl (by omega) (by omega) (by omega)
      have m3 := mkS 26 3 8 K (.int .i64 0) el26 sz3 by3 zr3 rfl (by omega) (by omega) (by omega)
      have r1 : bareL (List.replicate K (D.sl true [])) = true := bareL_rep rfl
      have r2 : bareL (List.replicate K (D.int .u16 0)) = true := bareL_rep rfl
      have r3 : bareL (List.replicate K (D.int .i64 0)) = true := bareL_rep rfl
      clear hG hz hl hR hK hall
      repeat' (first | refine wz1 ?_ | refine wz2 ?_ | refine wz3 ?_ | refine wz4 ?_ | refine wz5 ?_ | refine wz6 ?_ | simp -dsimp (maxSteps:=999999) (disch:=omega) only[go_sem,simprocAttr, *,rxsD] | ((first | refine wz8 (fun hh => ?_) (fun hh => ?_) | refine wz9 (fun hh => ?_) (fun hh => ?_) | refine wpB_cond (by simp -dsimp (maxSteps:=999999) (disch:=omega) only[go_sem,simprocAttr, *,rxsD]; exact rfl) (fun hh => ?_) (fun hh => ?_)) <;> (try replace hh := vqs hh) <;> (try (exfalso; first | exact hh | omega))))
      refine wpB_regionPL (m := 5) (prs := [([40], [42]), ([42], [40]), ([40], [44]), ([44], [40]), ([42], [44]), ([44], [42]), ([40], [46]), ([46], [40]), ([42], [46]), ([46], [42]), ([44], [46]), ([46], [44]), ([40], [6]), ([6], [40]), ([42], [6]), ([6], [42]), ([44], [6]), ([6], [44]), ([46], [6]), ([6], [46])]) (by kernel_rfl) (by kernel_rfl) rfl (by kernel_rfl) (by kernel_rfl) ?_
      simp -dsimp (maxSteps:=999999) (disch:=omega) only[go_sem,simprocAttr, *,zrN4, bdN5]
      have b1 := ly_cells 1 2 3 4 K
      have b2 := ly_aggQ 1 2 3 4 K
      have b3 := ly_noTup 1 2 3 4 K
      repeat' (first | refine wz1 ?_ | refine wz2 ?_ | refine wz3 ?_ | refine wz4 ?_ | refine wz5 ?_ | refine wz6 ?_ | simp -dsimp (maxSteps:=999999) (disch:=omega) only[go_sem,simprocAttr, *] | ((first | refine wz8 (fun hh => ?_) (fun hh => ?_) | refine wz9 (fun hh => ?_) (fun hh => ?_) | refine wz7 (fun hh => ?_) (fun hh => ?_)) <;> (try replace hh := vqs hh) <;> (try (exfalso; first | exact hh | omega))))
      refine wpB_loop (fun e H => ∃ j : Nat, j ≤ K ∧ H = [Ob.arr [.agg [.sl true [], .sl true [], .sl true [], .sl true []]], Ob.arr (List.replicate K (.sl true [])), Ob.arr (List.replicate K (.int .u16 0)), Ob.arr (List.replicate K (.int .i64 0)), Ob.arr (List.replicate j (.int .i64 (-1)) ++ List.replicate (K - j) (.int .i64 0)), Ob.arr [lyD 1 2 3 4 K]] ∧ e 0 = rxsD l ∧ e 2 = .ptr 0 0 0 ∧ e 4 = .int .i64 K ∧ e 6 = .ptr 5 0 0 ∧ e 7 = .int .i64 j) (fun e H => K - natOf (e 7)) ?_ ?_
      · exact ⟨0, by omega, rfl, by simp -dsimp (maxSteps:=999999) (disch:=omega) only[go_sem,simprocAttr, *,rxsD], gs, gs, gs, gs⟩
      clear e0 e2 e4 e5
      rintro e H ⟨j, hj, rfl, e0, e2, e4, e6, e7⟩ R hR
      by_cases hbK : j < K
      · have hcell : (List.replicate j (D.int .i64 (-1)) ++ List.replicate (K - j) (D.int .i64 0))[j]? = some (.int .i64 0) := by
          rw [List.getElem?_append_right (by simp), List.length_replicate, Nat.sub_self, List.getElem?_replicate, if_pos (by omega)]
        have hset : (List.replicate j (D.int .i64 (-1)) ++ List.replicate (K - j) (D.int .i64 0)).set j (D.int .i64 (-1)) = List.replicate (j + 1) (D.int .i64 (-1)) ++ List.replicate (K - (j + 1)) (D.int .i64 0) := by
          rw [List.set_append_right _ _ (by simp), show K - j = (K - (j + 1)) + 1 by omega, List.replicate_succ]
          simp [List.replicate_succ', List.append_assoc]
        have hvs : ∀ H : Heap, hget H 4 = .arr (List.replicate j (D.int .i64 (-1)) ++ List.replicate (K - j) (D.int .i64 0)) → vecSize H 4 1 = true := fun H h => vecSize_of h (fun e => by have := congrArg List.length e; simp only [List.length_append, List.length_replicate, List.length_nil] at this; omega) (by
          cases hjj : j with
          | zero => rw [show K - 0 = (K - 1) + 1 by omega, List.replicate_succ]; rfl
          | succ q => rw [List.replicate_succ]; rfl)
        have hvs2 := hvs [Ob.arr [.agg [.sl true [], .sl true [], .sl true [], .sl true []]], Ob.arr (List.replicate K (.sl true [])), Ob.arr (List.replicate K (.int .u16 0)), Ob.arr (List.replicate K (.int .i64 0)), Ob.arr (List.replicate j (.int .i64 (-1)) ++ List.replicate (K - j) (.int .i64 0)), Ob.arr [lyD 1 2 3 4 K]] rfl
        clear hvs
        generalize List.replicate j (D.int .i64 (-1)) ++ List.replicate (K - j) (D.int .i64 0) = xs at *
        repeat' (first | refine wz1 ?_ | refine wz2 ?_ | refine wz3 ?_ | refine wz4 ?_ | refine wz5 ?_ | refine wz6 ?_ | simp -dsimp (maxSteps:=999999) (disch:=omega) only[go_sem,simprocAttr, *] | ((first | refine wz8 (fun hh => ?_) (fun hh => ?_) | refine wz9 (fun hh => ?_) (fun hh => ?_) | refine wz7 (fun hh => ?_) (fun hh => ?_)) <;> (try replace hh := vqs hh) <;> (try (exfalso; first | exact hh | omega))))
        refine hR _ _ ⟨j + 1, by omega, gs, by simp -dsimp (maxSteps:=999999) (disch:=omega) only[go_sem,simprocAttr, *,rxsD], gs, gs, gs, gs⟩ ?_
        simp -dsimp (maxSteps:=999999) (disch:=omega) only[go_sem,simprocAttr, *,natOf_int]
      obtain rfl : j = K := by omega
      clear hR
      have hly : LyAt 1 2 3 4 (zeroN j) [Ob.arr [.agg [.sl true [], .sl true [], .sl true [], .sl true []]], Ob.arr (List.replicate j (.sl true [])), Ob.arr (List.replicate j (.int .u16 0)), Ob.arr (List.replicate j (.int .i64 0)), Ob.arr (List.replicate j (.int .i64 (-1)) ++ List.replicate (j - j) (.int .i64 0)), Ob.arr [lyD 1 2 3 4 j]] := by
        refine ⟨?_, ?_, ?_, ?_, by simp [zeroN, kN], by simp [zeroN, kN], by simp [zeroN, kN], by omega, by omega, by omega, by omega, by omega, by omega⟩
        · simp [hget, zeroN, frD]
        · simp [hget, zeroN]
        · simp [hget, zeroN]
        · simp [hget, zeroN]
      have hkz : kN (zeroN j) = j := by simp [kN, zeroN]
      have hfz : fN (zeroN j) = 0 := by simp [fN, zeroN]
      obtain ⟨G2, hG2⟩ : ∃ G2, G2 = refFrom l 0 1 (zeroN j) := ⟨_, rfl⟩
      rw [← hG2]
      have hG3 : Hid (G2 = refFrom (l.drop 0) 0 1 (zeroN j)) := hG2
      have hs0 : 1 + 2 * sizeL (l.drop 0) ≤ j := by rw [List.drop_zero]; omega
      have hs1 : j ≤ 1 + 2 * sizeL (l.drop 0) := by rw [List.drop_zero]; omega
      have hsl : sizeL (l.drop 0) ≤ 1600 := by rw [List.drop_zero]; omega
      clear hG2 m1 m2 m3 r1 r2 r3 hbK hj hj16 hb
      generalize hHH : [Ob.arr [.agg [.sl true [], .sl true [], .sl true [], .sl true []]], Ob.arr (List.replicate j (.sl true [])), Ob.arr (List.replicate j (.int .u16 0)), Ob.arr (List.replicate j (.int .i64 0)), Ob.arr (List.replicate j (.int .i64 (-1)) ++ List.replicate (j - j) (.int .i64 0)), Ob.arr [lyD 1 2 3 4 j]] = H1 at *
      have h0 : hget H1 0 = .arr [.agg [.sl true [], .sl true [], .sl true [], .sl true []]] := by rw [← hHH]; rfl
      have h5 : hget H1 5 = .arr [lyD 1 2 3 4 j] := by rw [← hHH]; rfl
      have hl6 : 6 ≤ H1.length := by rw [← hHH]; simp
      clear hHH
      repeat' (first | refine wz1 ?_ | refine wz2 ?_ | refine wz3 ?_ | refine wz4 ?_ | refine wz5 ?_ | refine wz6 ?_ | simp -dsimp (maxSteps:=999999) (disch:=omega) only[go_sem,simprocAttr, *] | ((first | refine wz8 (fun hh => ?_) (fun hh => ?_) | refine wz9 (fun hh => ?_) (fun hh => ?_) | refine wz7 (fun hh => ?_) (fun hh => ?_)) <;> (try replace hh := vqs hh) <;> (try (exfalso; first | exact hh | omega))))
      refine wpB_loop (fun e Hi => ∃ (i a : Nat) (n : Nfa), i ≤ l.length ∧ LyAt 1 2 3 4 n Hi ∧ kN n = j ∧ hget Hi 0 = .arr [.agg [.sl true [], .sl true [], .sl true [], .sl true []]] ∧ hget Hi 5 = .arr [lyD 1 2 3 4 j] ∧ 6 ≤ Hi.length ∧ 1 ≤ a ∧ a + 2 * sizeL (l.drop i) ≤ j ∧ j ≤ a + 2 * sizeL (l.drop i) ∧ fN n + 5 * sizeL (l.drop i) ≤ 70000 ∧ G2 = refFrom (l.drop i) i a n ∧ e 0 = rxsD l ∧ e 2 = .ptr 0 0 0 ∧ e 6 = .ptr 5 0 0 ∧ e 8 = .int .i64 a ∧ e 9 = .int .i64 i) (fun e H => l.length - natOf (e 9)) ?_ ?_
      · exact ⟨0, 1, zeroN j, by omega, hly, hkz, h0, h5, hl6, by omega, hs0, hs1, by omega, hG3, by simp -dsimp (maxSteps:=999999) (disch:=omega) only[go_sem,simprocAttr, *,rxsD], gs, gs, gs, gs⟩
      clear hly h0 h5 hl6 hs0 hs1 hG3 e0 e2 e4 e6 e7 hsl
      rintro e Hi ⟨i, a, n, hi, hL, hkn, h0, h5, hl6, ha1, ha2, ha3, hf, hG, e0, e2, e6, e8, e9⟩ R hR
      by_cases hb : i < l.length
      · have hxm := List.getElem_mem hb
        have hx : (rxDs l)[i]? = some (rxD l[i]) := by rw [rxDs_at, List.getElem?_eq_getElem hb]; rfl
        rw [List.drop_eq_getElem_cons hb] at ha2 ha3 hf hG
        simp only [sizeL] at ha2 ha3 hf
        obtain ⟨hdx, hsx⟩ := hrt _ hxm
        have hlay := lay_ok 12 l[i] hdx (by omega) (hok _ hxm) hsx 1 2 3 4 n a Hi hL (by omega) (by omega) (by omega)
        have hnn := nodes_ok 12 l[i] (hok _ hxm) hdx (by omega)
        rw [(nodes_small _).1 hsx] at hnn
        have hnf := layN_f l[i] a n
        have hnk := layN_k l[i] a n
        have hst := strip1 (strip_rx l[i])
        have c1 := rx_cells l[i]
        have c2 := rx_aggQ l[i]
        have c3 := rx_noTup l[i]
        have hxp := sizeR_pos l[i]
        rw [refFrom] at hG
        rw [hkn] at hlay
        clear hrt hok hL
        generalize l[i] = x at *
        generalize layN x a n = n2 at *
        repeat' (first | refine wz1 ?_ | refine wz2 ?_ | refine wz3 ?_ | refine wz4 ?_ | refine wz5 ?_ | refine wz6 ?_ | simp -dsimp (maxSteps:=999999) (disch:=omega) only[go_sem,simprocAttr, *,rxsD] | ((first | refine wz8 (fun hh => ?_) (fun hh => ?_) | refine wz9 (fun hh => ?_) (fun hh => ?_) | refine wpB_cond (by simp -dsimp (maxSteps:=999999) (disch:=omega) only[go_sem,simprocAttr, *,rxsD]; exact rfl) (fun hh => ?_) (fun hh => ?_)) <;> (try replace hh := vqs hh) <;> (try (exfalso; first | exact hh | omega))))
        refine wpB_regionXL (prs := []) (by kernel_rfl) rfl (by kernel_rfl) ?_; simp -dsimp (maxSteps:=999999) (disch:=omega) only[go_sem,simprocAttr, *,rxsD]
        refine ⟨fun h => Bool.noConfusion (show false = true from h), evB_state bo42 rfl rfl hlay ?_ (fun _ _ h => h.elim)⟩
        rintro _ H4 ⟨hL4, hB4⟩
        have h04 := (hB4.2 0 (by omega) (by omega) (by omega) (by omega)).trans h0
        have h54 := (hB4.2 5 (by omega) (by omega) (by omega) (by omega)).trans h5
        have hl4 := hB4.1
        have hF4 := hL4.F
        obtain ⟨f, v, qs, Hn, s1, s2, s3, s4, s5, s6, s7, s8, s9, s10, s11, s12, s13, s14, s15, s16⟩ := addI_pack hL4 (i := 0) (by omega) a (by omega)
        have h0n := (s15 0 (by omega)).trans h04
        have h5n := (s15 5 (by omega)).trans h54
        have hRn := s12.R
        have hfi := addI_f n2 0 a
        have hkn2 : kN (addI n2 0 a) = j := by rw [addI_k]; omega
        obtain ⟨en, hen⟩ : ∃ en, en = a + 2 * sizeR x - 1 := ⟨_, rfl⟩
        have hkk : a + 2 * sizeR x = en + 1 := by omega
        rw [← hen, hkk] at hG
        have hen1 : (a : Int) + 2 * (sizeR x : Int) - 1 = (en : Int) := by omega
        have hen2 : (a : Int) + 2 * (sizeR x : Int) = (en : Int) + 1 := by omega
        have henj : en < j := by omega
        have hlR := s12.lR
        rw [hkn2] at hlR
        generalize addI n2 0 a = n3 at *
        have hRc : (n3.rule.map (D.int .i64))[en]? = some (.int .i64 (n3.rule.getD en 0)) := by
          have : en < n3.rule.length := by omega
          simp [List.getD_eq_getElem?_getD, this]
        have hRz : vecSize Hn 4 1 = true := vecSize_of hRn (fun e => by have := congrArg List.length e; simp only [List.length_map, List.length_nil] at this; omega) (headInts _)
        have hLn : LyAt 1 2 3 4 (setRule n3 en (i : Int)) (Hn.set 4 (.arr ((n3.rule.map (D.int .i64)).set en (.int .i64 i)))) := by
          obtain ⟨l1, l2, l3, l4⟩ := s12.lt
          refine ⟨by rw [hget_set_ne (by omega)]; exact s12.F, by rw [hget_set_ne (by omega)]; exact s12.S, by rw [hget_set_ne (by omega)]; exact s12.T, by rw [hget_set_eq l4, ← List.map_set]; rfl, s12.lF, s12.lT, ?_, by omega, by omega, by omega, by omega, by omega, by omega⟩
          have := s12.lR
          simpa [setRule, kN] using this
        have g0 : hget (Hn.set 4 (.arr ((n3.rule.map (D.int .i64)).set en (.int .i64 i)))) 0 = _ := (hget_set_ne (by omega)).trans h0n
        have g5 : hget (Hn.set 4 (.arr ((n3.rule.map (D.int .i64)).set en (.int .i64 i)))) 5 = _ := (hget_set_ne (by omega)).trans h5n
        have gl : 6 ≤ (Hn.set 4 (.arr ((n3.rule.map (D.int .i64)).set en (.int .i64 i)))).length := by rw [List.length_set]; omega
        clear hlay hL4 hB4 s12 s13 s15 hen hkk h0 h5
        repeat' (first | refine wz1 ?_ | refine wz2 ?_ | refine wz3 ?_ | refine wz4 ?_ | refine wz5 ?_ | refine wz6 ?_ | simp -dsimp (maxSteps:=999999) (disch:=omega) only[go_sem,simprocAttr, *,rxsD] | ((first | refine wz8 (fun hh => ?_) (fun hh => ?_) | refine wz9 (fun hh => ?_) (fun hh => ?_) | refine wpB_cond (by simp -dsimp (maxSteps:=999999) (disch:=omega) only[go_sem,simprocAttr, *,rxsD]; exact rfl) (fun hh => ?_) (fun hh => ?_)) <;> (try replace hh := vqs hh) <;> (try (exfalso; first | exact hh | omega))))
        refine wpB_regionXL (prs := []) (by kernel_rfl) rfl (by kernel_rfl) ?_; simp -dsimp (maxSteps:=999999) (disch:=omega) only[go_sem,simprocAttr, *,rxsD]
        refine evB_pureK bo43 rfl rfl s5 s7 ?_
        intro H6 hH6
        obtain rfl : H6 = H4 := by rcases hH6 with h | h <;> exact h
        repeat' (first | refine wz1 ?_ | refine wz2 ?_ | refine wz3 ?_ | refine wz4 ?_ | refine wz5 ?_ | refine wz6 ?_ | simp -dsimp (maxSteps:=999999) (disch:=omega) only[go_sem,simprocAttr, *,rxsD] | ((first | refine wz8 (fun hh => ?_) (fun hh => ?_) | refine wz9 (fun hh => ?_) (fun hh => ?_) | refine wpB_cond (by simp -dsimp (maxSteps:=999999) (disch:=omega) only[go_sem,simprocAttr, *,rxsD]; exact rfl) (fun hh => ?_) (fun hh => ?_)) <;> (try replace hh := vqs hh) <;> (try (exfalso; first | exact hh | omega))))
        refine evB_plain bo16 rfl rfl hst hnn ?_
        repeat' (first | refine wz1 ?_ | refine wz2 ?_ | refine wz3 ?_ | refine wz4 ?_ | refine wz5 ?_ | refine wz6 ?_ | simp -dsimp (maxSteps:=999999) (disch:=omega) only[go_sem,simprocAttr, *] | ((first | refine wz8 (fun hh => ?_) (fun hh => ?_) | refine wz9 (fun hh => ?_) (fun hh => ?_) | refine wz7 (fun hh => ?_) (fun hh => ?_)) <;> (try replace hh := vqs hh) <;> (try (exfalso; first | exact hh | omega))))
        refine hR _ _ ⟨i + 1, en + 1, _, by omega, hLn, by show kN n3 = j; omega, g0, g5, gl, by omega, by omega, by omega, by show fN n3 + _ ≤ _; omega, hG, by simp -dsimp (maxSteps:=999999) (disch:=omega) only[go_sem,simprocAttr, *,rxsD], gs, gs, gs, gs⟩ ?_
        simp -dsimp (maxSteps:=999999) (disch:=omega) only[go_sem,simprocAttr, *,natOf_int]
      · rw [List.drop_eq_nil_of_le (by omega)] at hG
        have hG' : G2 = n := hG
        have hout := fun ob => out_ly (hL.keep (H' := Hi.set 0 ob) (hget_set_ne (by omega)) (hget_set_ne (by omega)) (hget_set_ne (by omega)) (hget_set_ne (by omega))) true
        have hl0 := lt_of_hget h0
        rw [hkn] at hout
        rw [hG']
        clear hG' hG hL
        repeat' (first | refine wz1 ?_ | refine wz2 ?_ | refine wz3 ?_ | refine wz4 ?_ | refine wz5 ?_ | refine wz6 ?_ | simp -dsimp (maxSteps:=999999) (disch:=omega) only[go_sem,simprocAttr, *,rxsD] | ((first | refine wz8 (fun hh => ?_) (fun hh => ?_) | refine wz9 (fun hh => ?_) (fun hh => ?_) | refine wpB_cond (by simp -dsimp (maxSteps:=999999) (disch:=omega) only[go_sem,simprocAttr, *,rxsD]; exact rfl) (fun hh => ?_) (fun hh => ?_)) <;> (try replace hh := vqs hh) <;> (try (exfalso; first | exact hh | omega))))
        exact hout _
end Go.Proofs.W
end
/- The document's machine of expressions is the program's. -/
section
set_option maxHeartbeats 4000000
set_option linter.unusedVariables false
set_option linter.unusedSimpArgs false
namespace Go.Proofs.W
open Go Vm Go.Proofs.Zs7z

theorem addI_same {n : Nfa} {f t s : Nat} (h : s ≠ f) : SameS n (addI n f t) s := by
  refine ⟨rfl, rfl, ?_⟩
  simp only [addI, getD_set]
  rw [if_neg (fun e => h e.1.symm)]
theorem addI_only {n : Nfa} {f t : Nat} {l : List Nat} (hf : f < n.free.length) (h : FreeOnly n f l) (hl : ∀ y ∈ l, y < t) : FreeOnly (addI n f t) f (l ++ [t]) := by
  refine ⟨h.1, ?_⟩
  simp only [addI, getD_set]
  rw [if_pos ⟨trivial, hf⟩, h.2, into_snoc]
  · simp
  · intro y hy
    obtain ⟨z, hz, rfl⟩ := List.mem_map.1 hy
    have := hl z hz
    omega
theorem addI_two {n : Nfa} {f t e : Nat} (hf : f < n.free.length) (h : FreeOnly n f [e]) (hl : t < e) : FreeOnly (addI n f t) f [t, e] := by
  refine ⟨h.1, ?_⟩
  simp only [addI, getD_set]
  rw [if_pos ⟨trivial, hf⟩, h.2]
  simp only [List.map_cons, List.map_nil, intoL]
  rw [if_neg (by omega), if_neg (by omega)]
theorem addI_len (n : Nfa) (f t : Nat) : (addI n f t).free.length = n.free.length := by simp [addI]
/-- states of which nothing is told yet -/
def Fresh (n : Nfa) (a b : Nat) : Prop := ∀ s, a ≤ s → s < b → FreeOnly n s []
theorem Fresh.same {n n' : Nfa} {a b : Nat} (h : Fresh n a b) (g : ∀ s, a ≤ s → s < b → SameS n n' s) : Fresh n' a b := fun s h1 h2 => (g s h1 h2).only (h s h1 h2)
theorem Fresh.sub {n : Nfa} {a b c d : Nat} (h : Fresh n a b) (h1 : a ≤ c) (h2 : d ≤ b) : Fresh n c d := fun s g1 g2 => h s (by omega) (by omega)
mutual
theorem layN_fl : ∀ (r : Rx) (a : Nat) (n : Nfa), (layN r a n).free.length = n.free.length ∧ (layN r a n).to.length = n.to.length ∧ (layN r a n).rule = n.rule
  | .mk k s l, a, n => by
    rw [layN]
    split
    · simp
    · have h1 := layL_fl k a (a + 2 * sizeL l + 1) l (a + 1) a (if k ≠ 2 ∧ k ≠ 3 then addI n a (a + 2 * sizeL l + 1) else n)
      have h2 : (if k ≠ 2 ∧ k ≠ 3 then addI n a (a + 2 * sizeL l + 1) else n).free.length = n.free.length ∧ (if k ≠ 2 ∧ k ≠ 3 then addI n a (a + 2 * sizeL l + 1) else n).to.length = n.to.length ∧ (if k ≠ 2 ∧ k ≠ 3 then addI n a (a + 2 * sizeL l + 1) else n).rule = n.rule := by
        split
        · exact ⟨addI_len _ _ _, rfl, rfl⟩
        · exact ⟨rfl, rfl, rfl⟩
      generalize (if k ≠ 2 ∧ k ≠ 3 then addI n a (a + 2 * sizeL l + 1) else n) = n0 at h1 h2 ⊢
      split
      · exact ⟨by rw [addI_len, h1.1, h2.1], h1.2.1.trans h2.2.1, h1.2.2.trans h2.2.2⟩
      · exact ⟨h1.1.trans h2.1, h1.2.1.trans h2.2.1, h1.2.2.trans h2.2.2⟩
theorem layL_fl (k : Int) (a en : Nat) : ∀ (l : List Rx) (next last : Nat) (n : Nfa), (layL k a en l next last n).1.free.length = n.free.length ∧ (layL k a en l next last n).1.to.length = n.to.length ∧ (layL k a en l next last n).1.rule = n.rule
  | [], _, _, n => ⟨rfl, rfl, rfl⟩
  | r :: l, next, last, n => by
    simp only [layL]
    obtain ⟨h1, h2, h3⟩ := layL_fl k a en l (next + 2 * sizeR r) (kidW k a en next (next + 2 * sizeR r - 1) last (layN r next n)).2 (kidW k a en next (next + 2 * sizeR r - 1) last (layN r next n)).1
    obtain ⟨g1, g2, g3⟩ := layN_fl r next n
    have hk : ∀ m : Nfa, (kidW k a en next (next + 2 * sizeR r - 1) last m).1.free.length = m.free.length ∧ (kidW k a en next (next + 2 * sizeR r - 1) last m).1.to.length = m.to.length ∧ (kidW k a en next (next + 2 * sizeR r - 1) last m).1.rule = m.rule := fun m => by
      unfold kidW
      split
      · exact ⟨addI_len _ _ _, rfl, rfl⟩
      · split
        · exact ⟨by simp only [addI_len], rfl, rfl⟩
        · exact ⟨by simp only [addI_len], rfl, rfl⟩
    obtain ⟨k1, k2, k3⟩ := hk (layN r next n)
    exact ⟨h1.trans (k1.trans g1), h2.trans (k2.trans g2), h3.trans (k3.trans g3)⟩
end
/-- what laying an expression comes to -/
def LayFrag (r : Rx) : Prop := ∀ (a : Nat) (n : Nfa), n.free.length = kN n → n.to.length = kN n → a + 2 * sizeR r ≤ kN n → Fresh n a (a + 2 * sizeR r) →
  Frag (layN r a n) r a ∧ FreeOnly (layN r a n) (endOf r a) [] ∧ ∀ s, (s < a ∨ a + 2 * sizeR r ≤ s) → SameS n (layN r a n) s
theorem lay_cat (a0 en : Nat) : ∀ (l : List Rx), (∀ r ∈ l, LayFrag r) → ∀ (a last : Nat) (n : Nfa), n.free.length = kN n → n.to.length = kN n → a + 2 * sizeL l ≤ en → en < kN n → last < a → FreeOnly n last [] → Fresh n a (a + 2 * sizeL l) →
    ∀ A0, let x := layL 2 A0 en l a last n
    FreeOnly (addI x.1 x.2 en) last [if l.isEmpty then en else a] ∧ FragL (addI x.1 x.2 en) 2 a0 en l a ∧ ∀ s, s ≠ last → (s < a ∨ a + 2 * sizeL l ≤ s) → SameS n (addI x.1 x.2 en) s
  | [], _, a, last, n, hF, hT, h1, h2, h3, h4, h5, A0 => by
    simp only [layL]
    exact ⟨by simpa using addI_only (t := en) (by omega) h4 (by simp), trivial, fun s hs _ => addI_same hs⟩
  | r :: l, hl, a, last, n, hF, hT, h1, h2, h3, h4, h5, A0 => by
    have hp := sizeR_pos r
    simp only [sizeL] at h1 h5
    obtain ⟨f1, f2, f3⟩ := hl r (by simp) a n hF hT (by omega) (h5.sub (Nat.le_refl _) (by omega))
    obtain ⟨e1, e2, -⟩ := layN_fl r a n
    have ek := layN_k r a n
    have hend : a + 2 * sizeR r - 1 = endOf r a := rfl
    simp only [layL, kidW, if_true, hend]
    have hne : endOf r a ≠ last := by simp only [endOf]; omega
    have s1 : ∀ s, s ≠ last → SameS (layN r a n) (addI (layN r a n) last a) s := fun s hs => addI_same hs
    obtain ⟨g1, g2, g3⟩ := lay_cat a0 en l (fun x hx => hl x (by simp [hx])) (a + 2 * sizeR r) (endOf r a) (addI (layN r a n) last a) (by rw [addI_len, addI_k]; omega) (by rw [addI_k]; show (layN r a n).to.length = _; omega) (by omega) (by rw [addI_k]; omega) (by simp only [endOf]; omega) ((s1 _ hne).only f2)
      ((h5.sub (by omega) (by omega)).same fun s h6 h7 => (f3 s (.inr h6)).trans (s1 s (by omega))) A0
    have hlast := g3 last (Ne.symm hne) (.inl (by omega))
    refine ⟨?_, ⟨frag_keep r a (fun s h6 h7 => (s1 s (by omega)).trans (g3 s (by omega) (.inl (by simp only [endOf] at h7; omega)))) f1, ?_, g2⟩, fun s hs h => ?_⟩
    · have := addI_only (t := a) (l := []) (by omega) ((f3 last (.inl h3)).only h4) (by simp)
      simpa using hlast.only this
    · simpa using g1
    · simp only [sizeL] at h
      exact ((f3 s (by omega)).trans (s1 s hs)).trans (g3 s (by simp only [endOf]; omega) (by omega))
theorem lay_alt (a0 i en : Nat) : ∀ (l : List Rx), (∀ r ∈ l, LayFrag r) → ∀ (a last : Nat) (F : List Nat) (n : Nfa), n.free.length = kN n → n.to.length = kN n → a + 2 * sizeL l ≤ en → en < kN n → i < a → FreeOnly n i F → (∀ y ∈ F, y < a) → Fresh n a (a + 2 * sizeL l) →
    FreeOnly (layL 3 i en l a last n).1 i (F ++ starts l a) ∧ FragL (layL 3 i en l a last n).1 3 a0 en l a ∧ ∀ s, s ≠ i → (s < a ∨ a + 2 * sizeL l ≤ s) → SameS n (layL 3 i en l a last n).1 s
  | [], _, a, last, F, n, hF, hT, h1, h2, h3, h4, _, h5 => by
    simp only [layL, starts, List.append_nil]
    exact ⟨h4, trivial, fun _ _ _ => SameS.refl⟩
  | r :: l, hl, a, last, F, n, hF, hT, h1, h2, h3, h4, hFa, h5 => by
    have hp := sizeR_pos r
    simp only [sizeL] at h1 h5
    obtain ⟨f1, f2, f3⟩ := hl r (by simp) a n hF hT (by omega) (h5.sub (Nat.le_refl _) (by omega))
    obtain ⟨e1, e2, -⟩ := layN_fl r a n
    have ek := layN_k r a n
    have hend : a + 2 * sizeR r - 1 = endOf r a := rfl
    have hne : endOf r a ≠ i := by simp only [endOf]; omega
    have hkw : kidW 3 i en a (a + 2 * sizeR r - 1) last (layN r a n) = (addI (addI (layN r a n) i a) (endOf r a) en, last) := by
      rw [hend, kidW, if_neg (by omega), if_neg (by omega)]
    simp only [layL, hkw]
    have s1 : ∀ s, s ≠ i → SameS (layN r a n) (addI (layN r a n) i a) s := fun s hs => addI_same hs
    have s2 : ∀ s, s ≠ endOf r a → SameS (addI (layN r a n) i a) (addI (addI (layN r a n) i a) (endOf r a) en) s := fun s hs => addI_same hs
    have q1 := addI_only (t := a) (by omega) ((f3 i (.inl h3)).only h4) hFa
    have q2 := (s2 i (Ne.symm hne)).only q1
    have q3 := addI_only (t := en) (l := []) (by rw [addI_len]; simp only [endOf]; omega) ((s1 _ hne).only f2) (by simp)
    obtain ⟨g1, g2, g3⟩ := lay_alt a0 i en l (fun x hx => hl x (by simp [hx])) (a + 2 * sizeR r) last (F ++ [a]) (addI (addI (layN r a n) i a) (endOf r a) en) (by simp only [addI_len, addI_k]; omega) (by simp only [addI_k]; show (layN r a n).to.length = _; omega) (by omega) (by simp only [addI_k]; omega) (by omega) q2
      (fun y hy => by
        rcases List.mem_append.1 hy with hy | hy
        · have := hFa y hy; omega
        · have : y = a := by simpa using hy
          omega)
      ((h5.sub (by omega) (by omega)).same fun s h6 h7 => ((f3 s (.inr h6)).trans (s1 s (by omega))).trans (s2 s (by simp only [endOf]; omega)))
    refine ⟨by simpa [starts] using g1, ⟨frag_keep r a (fun s h6 h7 => ((s1 s (by omega)).trans (s2 s (by omega))).trans (g3 s (by omega) (.inl (by simp only [endOf] at h7; omega)))) f1, ?_, g2⟩, fun s hs h => ?_⟩
    · simpa using (g3 (endOf r a) hne (.inl (by simp only [endOf]; omega))).only q3
    · simp only [sizeL] at h
      exact (((f3 s (by omega)).trans (s1 s hs)).trans (s2 s (by simp only [endOf]; omega))).trans (g3 s hs (by omega))
mutual
theorem lay_frag : ∀ (r : Rx), shapesR r = true → LayFrag r
  | .mk k s l, hs => by
    intro a n hF hT ha hfr
    simp only [shapesR, Bool.and_eq_true] at hs
    obtain ⟨hs1, hsl⟩ := hs
    have hkid := lay_frags l hsl
    have hend := endOf_mk k s l a
    simp only [sizeR] at ha hfr
    have hA : FreeOnly n a [] := hfr a (Nat.le_refl _) (by omega)
    have hE : FreeOnly n (a + 2 * sizeL l + 1) [] := hfr _ (by omega) (by omega)
    have hK : Fresh n (a + 1) (a + 1 + 2 * sizeL l) := hfr.sub (by omega) (by omega)
    simp only [shape1] at hs1
    rw [hend]
    simp only [Frag, hend, sizeR]
    rw [layN]
    generalize hen : a + 2 * sizeL l + 1 = en at *
    have hAE : en ≠ a := by omega
    by_cases hk1 : k = 1
    · subst hk1
      have hl : l = [] := by simp at hs1; exact hs1.1
      subst hl
      simp only [if_true]
      have hget : ∀ x, x ≠ a → SameS n { n with set := n.set.set a s, to := n.to.set a (en : Int) } x := fun x hx => by
        refine ⟨?_, ?_, rfl⟩ <;> simp only [getD_set]
        · rw [if_neg (fun e => hx e.1.symm)]
        · rw [if_neg (fun e => hx e.1.symm)]
      refine ⟨⟨⟨?_, ?_, ?_⟩, trivial⟩, (hget _ hAE).only hE, fun x hx => hget x (by omega)⟩
      · simp only [getD_set]; rw [if_pos ⟨trivial, by simp only [kN] at ha; omega⟩]
      · simp only [getD_set]; rw [if_pos ⟨trivial, by omega⟩]
      · have := hA.2; simpa using this
    rw [if_neg hk1, if_neg hk1]
    simp only
    by_cases h0 : k = 0
    · subst h0
      have hl : l = [] := by simp at hs1; exact hs1.1
      subst hl
      simp only [if_true, layL, if_neg (show ¬ (0 : Int) = 2 by omega), if_pos (show (0 : Int) ≠ 2 ∧ (0 : Int) ≠ 3 by omega)]
      have h1 := addI_only (t := en) (l := []) (by omega) hA (by simp)
      exact ⟨⟨h1, trivial⟩, (addI_same hAE).only hE, fun x hx => addI_same (by omega)⟩
    by_cases hk2 : k = 2
    · subst hk2
      have hne : l ≠ [] := by intro e; subst e; simp at hs1
      have hem : l.isEmpty = false := by cases l with | nil => exact absurd rfl hne | cons x y => rfl
      simp only [if_true, if_neg (show ¬ (2 : Int) = 0 by omega), if_neg (show ¬ ((2 : Int) ≠ 2 ∧ (2 : Int) ≠ 3) by omega)]
      obtain ⟨g1, g2, g3⟩ := lay_cat (a + 1) en l hkid (a + 1) a n hF hT (by omega) (by omega) (by omega) hA hK a
      rw [hem] at g1
      exact ⟨⟨by simpa using g1, g2⟩, (g3 _ hAE (.inr (by omega))).only hE, fun x hx => g3 x (by omega) (by omega)⟩
    rw [if_neg hk2]
    by_cases hk3 : k = 3
    · subst hk3
      simp only [if_true, if_neg (show ¬ (3 : Int) = 0 by omega), if_neg (show ¬ (3 : Int) = 2 by omega), if_neg (show ¬ ((3 : Int) ≠ 2 ∧ (3 : Int) ≠ 3) by omega)]
      obtain ⟨g1, g2, g3⟩ := lay_alt (a + 1) a en l hkid (a + 1) a [] n hF hT (by omega) (by omega) (by omega) hA (by simp) hK
      exact ⟨⟨by simpa using g1, g2⟩, (g3 _ hAE (.inr (by omega))).only hE, fun x hx => g3 x (by omega) (by omega)⟩
    have hk45 : k = 4 ∨ k = 5 := by
      by_cases h : k = 4 ∨ k = 5
      · exact h
      · simp [h0, hk1, show ¬ (k = 2 ∨ k = 3) by omega, h] at hs1
    obtain ⟨z, rfl⟩ : ∃ z, l = [z] := by
      have : l.length = 1 := by
        simp only [h0, hk1, if_false, show ¬ (k = 2 ∨ k = 3) by omega, if_pos hk45, Bool.and_eq_true] at hs1
        simpa using hs1.1
      match l, this with
      | [z], _ => exact ⟨z, rfl⟩
    have hp := sizeR_pos z
    have hz1 : sizeL [z] = sizeR z := by simp [sizeL]
    rw [hz1] at hen hK ha ⊢
    simp only [if_neg h0, if_neg hk2, if_neg hk3, if_pos (show k ≠ 2 ∧ k ≠ 3 from ⟨hk2, hk3⟩)]
    have p1 := addI_only (t := en) (l := []) (by omega) hA (by simp)
    have sA : ∀ s, s ≠ a → SameS n (addI n a en) s := fun s hs => addI_same hs
    obtain ⟨f1, f2, f3⟩ := hkid z (by simp) (a + 1) (addI n a en) (by rw [addI_len, addI_k]; exact hF) hT (by rw [addI_k]; omega) (hK.same fun s h1 h2 => sA s (by omega))
    obtain ⟨e1, e2, -⟩ := layN_fl z (a + 1) (addI n a en)
    rw [addI_len] at e1
    have hnE : endOf z (a + 1) ≠ a := by simp only [endOf]; omega
    have p2 := (f3 a (.inl (by omega))).only p1
    have heq : a + 1 + 2 * sizeR z - 1 = endOf z (a + 1) := rfl
    have fin : ∀ (N' : Nfa), (∀ x, x ≠ a → x ≠ endOf z (a + 1) → SameS (layN z (a + 1) (addI n a en)) N' x) → Frag N' z (a + 1) ∧ FreeOnly N' en [] ∧ ∀ x, (x < a ∨ a + 2 * (sizeR z + 1) ≤ x) → SameS n N' x := fun N' hS =>
      ⟨frag_keep z _ (fun x h1 h2 => hS x (by omega) (by omega)) f1, ((sA _ hAE).trans ((f3 _ (.inr (by omega))).trans (hS _ hAE (by simp only [endOf]; omega)))).only hE, fun x hx => (sA x (by omega)).trans ((f3 x (by omega)).trans (hS x (by omega) (by simp only [endOf]; omega)))⟩
    by_cases h4 : k = 4
    · subst h4
      simp only [layL, kidW, if_neg (show ¬ (4 : Int) = 2 by omega), if_true, heq, if_neg (show ¬ (4 : Int) = 0 by omega), if_neg (show ¬ (4 : Int) = 3 by omega)]
      have r1 := addI_only (t := a + 1) (l := []) (by simp only [endOf]; omega) f2 (by simp)
      have r2 := addI_two (n := addI (layN z (a + 1) (addI n a en)) (endOf z (a + 1)) (a + 1)) (t := a + 1) (by rw [addI_len]; omega) ((addI_same (Ne.symm hnE)).only p2) (by omega)
      have r3 := addI_only (n := addI (addI (layN z (a + 1) (addI n a en)) (endOf z (a + 1)) (a + 1)) a (a + 1)) (t := en) (by simp only [addI_len, endOf]; omega) ((addI_same hnE).only r1) (by simp; omega)
      have r4 := (addI_same (n := addI (addI (layN z (a + 1) (addI n a en)) (endOf z (a + 1)) (a + 1)) a (a + 1)) (f := endOf z (a + 1)) (t := en) (Ne.symm hnE)).only r2
      obtain ⟨k1, k2, k3⟩ := fin (addI (addI (addI (layN z (a + 1) (addI n a en)) (endOf z (a + 1)) (a + 1)) a (a + 1)) (endOf z (a + 1)) en) (fun x h1 h2 => ((addI_same h2).trans (addI_same h1)).trans (addI_same h2))
      exact ⟨⟨r4, k1, by simpa using r3, trivial⟩, k2, k3⟩
    · have h5 : k = 5 := by omega
      subst h5
      simp only [layL, kidW, if_neg (show ¬ (5 : Int) = 2 by omega), if_neg (show ¬ (5 : Int) = 4 by omega), heq, if_neg (show ¬ (5 : Int) = 0 by omega), if_neg (show ¬ (5 : Int) = 3 by omega)]
      have r2 := addI_two (t := a + 1) (by omega) p2 (by omega)
      have r3 := addI_only (n := addI (layN z (a + 1) (addI n a en)) a (a + 1)) (t := en) (l := []) (by simp only [addI_len, endOf]; omega) ((addI_same hnE).only f2) (by simp)
      have r4 := (addI_same (n := addI (layN z (a + 1) (addI n a en)) a (a + 1)) (f := endOf z (a + 1)) (t := en) (Ne.symm hnE)).only r2
      obtain ⟨k1, k2, k3⟩ := fin (addI (addI (layN z (a + 1) (addI n a en)) a (a + 1)) (endOf z (a + 1)) en) (fun x h1 h2 => (addI_same h1).trans (addI_same h2))
      exact ⟨⟨r4, k1, by simpa using r3, trivial⟩, k2, k3⟩
theorem lay_frags : ∀ (l : List Rx), shapesL l = true → ∀ r ∈ l, LayFrag r
  | [], _, r, h => by cases h
  | x :: l, hs, r, h => by
    simp only [shapesL, Bool.and_eq_true] at hs
    rcases List.mem_cons.1 h with e | h
    · rw [e]; exact lay_frag x hs.1
    · exact lay_frags l hs.2 r h
end
end Go.Proofs.W
end
