/- Texts that stand behind this claim, one after the other. -/
import Derived.Test.YthfbnjkijkbpcaaDoorM6
import Derived.Test.YthfbnjkijkbpcaaDoorM3
import Derived.Shelf.Small.Strs
import Derived.Shelf.Small.Wraps
import Derived.Shelf.Strings.Search1
import Derived.Shelf.Strings.Search2
import Derived.Shelf.Strings.Search3
import Derived.Shelf.Strings.Cut
import Derived.Shelf.Strings.Count
import Derived.Shelf.LaysM
import Derived.Shelf.Strings.Shaped
import Derived.Shelf.Sort.Plain
import Derived.Shelf.Strings.Prefix
import Derived.Shelf.Strings.Split
import Derived.Shelf.Unicode.DecodeSlow
import Derived.Ground.Names2Prog
import Derived.Shelf.Slices.CompactI
import Derived.Shelf.Slices.In.SortNone
import Derived.Test.YthfbnjkijkbpcaaDoorProg
import Derived.HandedShaped
import Derived.LaidLaws
/- The document's functions on machines without free steps. -/
section
set_option maxHeartbeats 4000000
set_option linter.unusedVariables false
set_option linter.unusedSimpArgs false
namespace Go.Proofs.W
open Go Vm Go.Proofs.Zs07

theorem rright_ok (d : Dfa) (ht : tyM d) (hs : d.next.length ≤ 1000000) (hs2 : d.rule.length ≤ 9223372036854775807) : PureF Tryd.prog A 8 [dfaD d] (.bool (rightD d)) := by
  have a1 := dfa_noTup d
  have a2 := dfa_cells d
  have a3 := dfa_aggQ d
  refine evF_inB (n := 64) (rs := [.tmp 2]) Tryd.func8 rfl rfl rfl rfl rfl rfl ?_
  by_cases c : 1 ≤ d.next.length ∧ d.next.length ≤ 200 ∧ d.rule.length = d.next.length
  case neg =>
    have hz : rightD d = false := by simp only [rightD, c, decide_false, Bool.false_and]
    rw [hz]
    repeat' (first | refine wpB_seq ?_ | refine wpB_regionL rfl ?_ | refine wpB_block ?_ | refine wpB_skip ?_ | refine wpB_exit ?_ | refine wpB_ret ?_ | simp (maxSteps := 1000000) (dsimp := false) (disch := omega) only [go_sem, simprocAttr, *] | ((first | refine stepsB_both (fun hh => ?_) (fun hh => ?_) | refine stepsXB_both (fun hh => ?_) (fun hh => ?_)) <;> (try simp (maxSteps := 1000000) (dsimp := false) (disch := omega) only [go_sem, simprocAttr, decide_eq_true_eq, decide_eq_false_iff_not, Bool.not_eq_true, Bool.not_eq_false, Bool.not_eq_true', Bool.not_eq_false', Int.not_lt, Int.not_le, bne_iff_ne, bne_eq_false_iff_eq, beq_iff_eq, beq_eq_false_iff_ne, ne_eq, Int.ofNat_inj, Int.natCast_inj] at hh) <;> (try (exfalso; omega))) | (refine wpB_cond (by simp (maxSteps := 1000000) (dsimp := false) (disch := omega) only [go_sem, simprocAttr, *]; exact rfl) (fun hh => ?_) (fun hh => ?_) <;> (try simp (maxSteps := 1000000) (dsimp := false) (disch := omega) only [go_sem, simprocAttr, decide_eq_true_eq, decide_eq_false_iff_not, Bool.not_eq_true, Bool.not_eq_false, Bool.not_eq_true', Bool.not_eq_false', Int.not_lt, Int.not_le, bne_iff_ne, bne_eq_false_iff_eq, beq_iff_eq, beq_eq_false_iff_ne, ne_eq, Int.ofNat_inj, Int.natCast_inj] at hh) <;> (try (exfalso; omega))))
  have hz : rightD d = allN (rowOk d) 0 d.next.length := by simp only [rightD, c, and_self, decide_true, Bool.true_and]
  rw [hz]
  generalize hG : allN (rowOk d) 0 d.next.length = G
  clear hz
  obtain ⟨c1, c2, c3⟩ := c
  replace hG : Hid (allN (rowOk d) 0 d.next.length = G) := hG
  repeat' (first | refine wpB_seq ?_ | refine wpB_regionL rfl ?_ | refine wpB_block ?_ | refine wpB_skip ?_ | refine wpB_exit ?_ | refine wpB_ret ?_ | simp (maxSteps := 1000000) (dsimp := false) (disch := omega) only [go_sem, simprocAttr, *] | ((first | refine stepsB_both (fun hh => ?_) (fun hh => ?_) | refine stepsXB_both (fun hh => ?_) (fun hh => ?_)) <;> (try simp (maxSteps := 1000000) (dsimp := false) (disch := omega) only [go_sem, simprocAttr, decide_eq_true_eq, decide_eq_false_iff_not, Bool.not_eq_true, Bool.not_eq_false, Bool.not_eq_true', Bool.not_eq_false', Int.not_lt, Int.not_le, bne_iff_ne, bne_eq_false_iff_eq, beq_iff_eq, beq_eq_false_iff_ne, ne_eq, Int.ofNat_inj, Int.natCast_inj] at hh) <;> (try (exfalso; omega))) | (refine wpB_cond (by simp (maxSteps := 1000000) (dsimp := false) (disch := omega) only [go_sem, simprocAttr, *]; exact rfl) (fun hh => ?_) (fun hh => ?_) <;> (try simp (maxSteps := 1000000) (dsimp := false) (disch := omega) only [go_sem, simprocAttr, decide_eq_true_eq, decide_eq_false_iff_not, Bool.not_eq_true, Bool.not_eq_false, Bool.not_eq_true', Bool.not_eq_false', Int.not_lt, Int.not_le, bne_iff_ne, bne_eq_false_iff_eq, beq_iff_eq, beq_eq_false_iff_ne, ne_eq, Int.ofNat_inj, Int.natCast_inj] at hh) <;> (try (exfalso; omega))))
  have c4 : d.rule.length ≤ d.next.length := by omega
  replace c3 : d.next.length ≤ d.rule.length := by omega
  generalize hN : d.rule.length = n
  have n1 : n ≤ d.next.length := by omega
  have n2 : d.next.length ≤ n := by omega
  have hnn : (n : Int) = d.next.length := by omega
  refine wpB_loop (fun e H => ∃ j m : Nat, j + m = d.next.length ∧ hget H 0 = .arr [dfaD d] ∧ e 1 = .ptr 0 0 0 ∧ e 3 = .int .i64 n ∧ e 4 = .int .i64 j ∧ G = allN (rowOk d) j m) (fun e H => d.next.length - natOf (e 4)) ?_ ?_
  · exact ⟨0, d.next.length, by omega, rfl, gs, gs, gs, Eq.symm hG⟩
  clear hG
  rintro e H ⟨j, m, hj, h0, e1, e3, e4, ha⟩ R hR
  by_cases hb : j < d.next.length
  case neg =>
    obtain rfl : m = 0 := by omega
    have : G = true := ha
    subst this
    clear hj ha
    repeat' (first | refine wpB_seq ?_ | refine wpB_regionL rfl ?_ | refine wpB_block ?_ | refine wpB_skip ?_ | refine wpB_exit ?_ | refine wpB_ret ?_ | simp (maxSteps := 1000000) (dsimp := false) (disch := omega) only [go_sem, simprocAttr, *] | ((first | refine stepsB_both (fun hh => ?_) (fun hh => ?_) | refine stepsXB_both (fun hh => ?_) (fun hh => ?_)) <;> (try simp (maxSteps := 1000000) (dsimp := false) (disch := omega) only [go_sem, simprocAttr, decide_eq_true_eq, decide_eq_false_iff_not, Bool.not_eq_true, Bool.not_eq_false, Bool.not_eq_true', Bool.not_eq_false', Int.not_lt, Int.not_le, bne_iff_ne, bne_eq_false_iff_eq, beq_iff_eq, beq_eq_false_iff_ne, ne_eq, Int.ofNat_inj, Int.natCast_inj] at hh) <;> (try (exfalso; omega))) | (refine wpB_cond (by simp (maxSteps := 1000000) (dsimp := false) (disch := omega) only [go_sem, simprocAttr, *]; exact rfl) (fun hh => ?_) (fun hh => ?_) <;> (try simp (maxSteps := 1000000) (dsimp := false) (disch := omega) only [go_sem, simprocAttr, decide_eq_true_eq, decide_eq_false_iff_not, Bool.not_eq_true, Bool.not_eq_false, Bool.not_eq_true', Bool.not_eq_false', Int.not_lt, Int.not_le, bne_iff_ne, bne_eq_false_iff_eq, beq_iff_eq, beq_eq_false_iff_ne, ne_eq, Int.ofNat_inj, Int.natCast_inj] at hh) <;> (try (exfalso; omega))))
  obtain ⟨m, rfl⟩ : ∃ x, m = x + 1 := ⟨m - 1, by omega⟩
  have hjr : j < d.rule.length := by omega
  have hrow := row_get hb
  have hlen := ht _ (List.getElem_mem hb)
  rw [allN, rowOk_at hb hjr] at ha
  generalize d.next[j] = row at hrow hlen ha
  generalize hru : d.rule[j] = ru at ha
  replace ha : Hid (G = ((decide (-1 ≤ ru) && decide (ru < 16) && (row.drop 0).all (toOk d.next.length)) && allN (rowOk d) (j + 1) m)) := ha
  have b1 := row_noTup row
  have b2 := row_cells row
  have b3 := row_aggQ row
  clear hN hnn
  repeat' (first | refine wpB_seq ?_ | refine wpB_regionL rfl ?_ | refine wpB_block ?_ | refine wpB_skip ?_ | refine wpB_exit ?_ | refine wpB_ret ?_ | simp (maxSteps := 1000000) (dsimp := false) (disch := omega) only [go_sem, simprocAttr, *] | ((first | refine stepsB_both (fun hh => ?_) (fun hh => ?_) | refine stepsXB_both (fun hh => ?_) (fun hh => ?_)) <;> (try simp (maxSteps := 1000000) (dsimp := false) (disch := omega) only [go_sem, simprocAttr, decide_eq_true_eq, decide_eq_false_iff_not, Bool.not_eq_true, Bool.not_eq_false, Bool.not_eq_true', Bool.not_eq_false', Int.not_lt, Int.not_le, bne_iff_ne, bne_eq_false_iff_eq, beq_iff_eq, beq_eq_false_iff_ne, ne_eq, Int.ofNat_inj, Int.natCast_inj] at hh) <;> (try (exfalso; omega))) | (refine wpB_cond (by simp (maxSteps := 1000000) (dsimp := false) (disch := omega) only [go_sem, simprocAttr, *]; exact rfl) (fun hh => ?_) (fun hh => ?_) <;> (try simp (maxSteps := 1000000) (dsimp := false) (disch := omega) only [go_sem, simprocAttr, decide_eq_true_eq, decide_eq_false_iff_not, Bool.not_eq_true, Bool.not_eq_false, Bool.not_eq_true', Bool.not_eq_false', Int.not_lt, Int.not_le, bne_iff_ne, bne_eq_false_iff_eq, beq_iff_eq, beq_eq_false_iff_ne, ne_eq, Int.ofNat_inj, Int.natCast_inj] at hh) <;> (try (exfalso; omega))))
  · have : G = false := by rw [show G = _ from ha]; simp; omega
    rw [this]
  rotate_left
  · have : G = false := by rw [show G = _ from ha]; simp; omega
    rw [this]
  have ha2 : Hid (G = ((row.drop 0).all (toOk d.next.length) && allN (rowOk d) (j + 1) m)) := by
    show G = _
    rw [show G = _ from ha]
    have h1 : decide (-1 ≤ ru) = true := by simp; omega
    have h2 : decide (ru < 16) = true := by simp; omega
    rw [h1, h2]; simp
  clear ha
  refine wpB_loop (fun e H => ∃ i : Nat, i ≤ 16 ∧ hget H 0 = .arr [dfaD d] ∧ e 1 = .ptr 0 0 0 ∧ e 3 = .int .i64 n ∧ e 4 = .int .i64 j ∧ e 5 = .int .i64 i ∧ G = ((row.drop i).all (toOk d.next.length) && allN (rowOk d) (j + 1) m)) (fun e H => 16 - natOf (e 5)) ?_ ?_
  · exact ⟨0, by omega, gs, gs, gs, gs, gs, ha2⟩
  have k4 := e4
  clear ha2 e1 e3 e4 h0
  rintro e2 H2 ⟨i, hi, h0, e1, e3, e4, e5, ha⟩ R2 hR2
  by_cases hb2 : i < 16
  case neg =>
    rw [List.drop_eq_nil_of_le (by omega)] at ha
    repeat' (first | refine wpB_seq ?_ | refine wpB_regionL rfl ?_ | refine wpB_block ?_ | refine wpB_skip ?_ | refine wpB_exit ?_ | refine wpB_ret ?_ | simp (maxSteps := 1000000) (dsimp := false) (disch := omega) only [go_sem, simprocAttr, *] | ((first | refine stepsB_both (fun hh => ?_) (fun hh => ?_) | refine stepsXB_both (fun hh => ?_) (fun hh => ?_)) <;> (try simp (maxSteps := 1000000) (dsimp := false) (disch := omega) only [go_sem, simprocAttr, decide_eq_true_eq, decide_eq_false_iff_not, Bool.not_eq_true, Bool.not_eq_false, Bool.not_eq_true', Bool.not_eq_false', Int.not_lt, Int.not_le, bne_iff_ne, bne_eq_false_iff_eq, beq_iff_eq, beq_eq_false_iff_ne, ne_eq, Int.ofNat_inj, Int.natCast_inj] at hh) <;> (try (exfalso; omega))) | (refine wpB_cond (by simp (maxSteps := 1000000) (dsimp := false) (disch := omega) only [go_sem, simprocAttr, *]; exact rfl) (fun hh => ?_) (fun hh => ?_) <;> (try simp (maxSteps := 1000000) (dsimp := false) (disch := omega) only [go_sem, simprocAttr, decide_eq_true_eq, decide_eq_false_iff_not, Bool.not_eq_true, Bool.not_eq_false, Bool.not_eq_true', Bool.not_eq_false', Int.not_lt, Int.not_le, bne_iff_ne, bne_eq_false_iff_eq, beq_iff_eq, beq_eq_false_iff_ne, ne_eq, Int.ofNat_inj, Int.natCast_inj] at hh) <;> (try (exfalso; omega))))
    refine hR _ _ ⟨j + 1, m, by omega, gs, gs, gs, gs, by simpa using ha⟩ ?_
    simp (maxSteps := 1000000) (dsimp := false) (disch := omega) only [go_sem, simprocAttr, *, natOf_int]
  have hil : i < row.length := by omega
  rw [allL_drop hil] at ha
  have hcell : (row.map (D.int .i64))[i * 1]? = some (.int .i64 row[i]) := by simp [hil]
  generalize row[i] = t at ha hcell
  replace ha : Hid (G = ((toOk d.next.length t && (row.drop (i + 1)).all (toOk d.next.length)) && allN (rowOk d) (j + 1) m)) := ha
  repeat' (first | refine wpB_seq ?_ | refine wpB_regionL rfl ?_ | refine wpB_block ?_ | refine wpB_skip ?_ | refine wpB_exit ?_ | refine wpB_ret ?_ | simp (maxSteps := 1000000) (dsimp := false) (disch := omega) only [go_sem, simprocAttr, *, rowD] | ((first | refine stepsB_both (fun hh => ?_) (fun hh => ?_) | refine stepsXB_both (fun hh => ?_) (fun hh => ?_)) <;> (try simp (maxSteps := 1000000) (dsimp := false) (disch := omega) only [go_sem, simprocAttr, decide_eq_true_eq, decide_eq_false_iff_not, Bool.not_eq_true, Bool.not_eq_false, Bool.not_eq_true', Bool.not_eq_false', Int.not_lt, Int.not_le, bne_iff_ne, bne_eq_false_iff_eq, beq_iff_eq, beq_eq_false_iff_ne, ne_eq, Int.ofNat_inj, Int.natCast_inj] at hh) <;> (try (exfalso; omega))) | (refine wpB_cond (by simp (maxSteps := 1000000) (dsimp := false) (disch := omega) only [go_sem, simprocAttr, *, rowD]; exact rfl) (fun hh => ?_) (fun hh => ?_) <;> (try simp (maxSteps := 1000000) (dsimp := false) (disch := omega) only [go_sem, simprocAttr, decide_eq_true_eq, decide_eq_false_iff_not, Bool.not_eq_true, Bool.not_eq_false, Bool.not_eq_true', Bool.not_eq_false', Int.not_lt, Int.not_le, bne_iff_ne, bne_eq_false_iff_eq, beq_iff_eq, beq_eq_false_iff_ne, ne_eq, Int.ofNat_inj, Int.natCast_inj] at hh) <;> (try (exfalso; omega))))
  · have : G = false := by rw [show G = _ from ha]; simp [toOk]; omega
    rw [this]
  · refine hR2 _ _ ⟨i + 1, by omega, gs, gs, gs, gs, gs, ?_⟩ ?_
    · rw [show G = _ from ha]
      have : toOk d.next.length t = true := by simp [toOk]; omega
      rw [this]; rfl
    · simp (maxSteps := 1000000) (dsimp := false) (disch := omega) only [go_sem, simprocAttr, *, natOf_int]
  · have : G = false := by rw [show G = _ from ha]; simp [toOk]; omega
    rw [this]
theorem rrun_ok (d : Dfa) (w : List Int) (ht : tyM d) (hr : rightD d = true) (hw : w.length ≤ 1000000) : PureF Tryd.prog A 12 [dfaD d, isD w] (.int .i64 (runD d 0 w)) := by
  have a1 := dfa_noTup d
  have a2 := dfa_cells d
  have a3 := dfa_aggQ d
  have hl := right_len hr
  have ew : isD w = .sl false (w.map (.int .i64)) := rfl
  refine evF_inB (n := 40) (rs := [.tmp 4]) Tryd.func12 rfl rfl rfl rfl rfl rfl ?_
  generalize hG : runD d 0 w = G
  replace hG : Hid (G = runD d 0 (w.drop 0)) := hG.symm
  repeat' (first | refine wpB_seq ?_ | refine wpB_regionL rfl ?_ | refine wpB_block ?_ | refine wpB_skip ?_ | refine wpB_exit ?_ | refine wpB_ret ?_ | simp (maxSteps := 1000000) (dsimp := false) (disch := omega) only [go_sem, simprocAttr, *] | ((first | refine stepsB_both (fun hh => ?_) (fun hh => ?_) | refine stepsXB_both (fun hh => ?_) (fun hh => ?_)) <;> (try simp (maxSteps := 1000000) (dsimp := false) (disch := omega) only [go_sem, simprocAttr, decide_eq_true_eq, decide_eq_false_iff_not, Bool.not_eq_true, Bool.not_eq_false, Bool.not_eq_true', Bool.not_eq_false', Int.not_lt, Int.not_le, bne_iff_ne, bne_eq_false_iff_eq, beq_iff_eq, beq_eq_false_iff_ne, ne_eq, Int.ofNat_inj, Int.natCast_inj] at hh) <;> (try (exfalso; omega))) | (refine wpB_cond (by simp (maxSteps := 1000000) (dsimp := false) (disch := omega) only [go_sem, simprocAttr, *]; exact rfl) (fun hh => ?_) (fun hh => ?_) <;> (try simp (maxSteps := 1000000) (dsimp := false) (disch := omega) only [go_sem, simprocAttr, decide_eq_true_eq, decide_eq_false_iff_not, Bool.not_eq_true, Bool.not_eq_false, Bool.not_eq_true', Bool.not_eq_false', Int.not_lt, Int.not_le, bne_iff_ne, bne_eq_false_iff_eq, beq_iff_eq, beq_eq_false_iff_ne, ne_eq, Int.ofNat_inj, Int.natCast_inj] at hh) <;> (try (exfalso; omega))))
  refine wpB_loop (fun e H => ∃ (j : Nat) (a : Int), j ≤ w.length ∧ hget H 0 = .arr [dfaD d] ∧ e 1 = isD w ∧ e 2 = .ptr 0 0 0 ∧ e 5 = .int .i64 a ∧ e 6 = .int .i64 j ∧ -1 ≤ a ∧ a < d.next.length ∧ G = if a < 0 then a else runD d a (w.drop j)) (fun e H => w.length - natOf (e 6)) ?_ ?_
  · exact ⟨0, 0, by omega, rfl, gs, gs, gs, gs, by omega, by omega, hG⟩
  clear hG
  rintro e H ⟨j, a, hj, h0, e1, e2, e5, e6, ha0, ha1, ha⟩ R hR
  by_cases hb : j < w.length
  case neg =>
    rw [List.drop_eq_nil_of_le (by omega)] at ha
    have : G = a := by rw [ha]; split <;> rfl
    subst this
    clear ha
    repeat' (first | refine wpB_seq ?_ | refine wpB_regionL rfl ?_ | refine wpB_block ?_ | refine wpB_skip ?_ | refine wpB_exit ?_ | refine wpB_ret ?_ | simp (maxSteps := 1000000) (dsimp := false) (disch := omega) only [go_sem, simprocAttr, *] | ((first | refine stepsB_both (fun hh => ?_) (fun hh => ?_) | refine stepsXB_both (fun hh => ?_) (fun hh => ?_)) <;> (try simp (maxSteps := 1000000) (dsimp := false) (disch := omega) only [go_sem, simprocAttr, decide_eq_true_eq, decide_eq_false_iff_not, Bool.not_eq_true, Bool.not_eq_false, Bool.not_eq_true', Bool.not_eq_false', Int.not_lt, Int.not_le, bne_iff_ne, bne_eq_false_iff_eq, beq_iff_eq, beq_eq_false_iff_ne, ne_eq, Int.ofNat_inj, Int.natCast_inj] at hh) <;> (try (exfalso; omega))) | (refine wpB_cond (by simp (maxSteps := 1000000) (dsimp := false) (disch := omega) only [go_sem, simprocAttr, *]; exact rfl) (fun hh => ?_) (fun hh => ?_) <;> (try simp (maxSteps := 1000000) (dsimp := false) (disch := omega) only [go_sem, simprocAttr, decide_eq_true_eq, decide_eq_false_iff_not, Bool.not_eq_true, Bool.not_eq_false, Bool.not_eq_true', Bool.not_eq_false', Int.not_lt, Int.not_le, bne_iff_ne, bne_eq_false_iff_eq, beq_iff_eq, beq_eq_false_iff_ne, ne_eq, Int.ofNat_inj, Int.natCast_inj] at hh) <;> (try (exfalso; omega))))
  by_cases hc0 : a < 0
  · rw [if_pos hc0] at ha
    subst ha
    repeat' (first | refine wpB_seq ?_ | refine wpB_regionL rfl ?_ | refine wpB_block ?_ | refine wpB_skip ?_ | refine wpB_exit ?_ | refine wpB_ret ?_ | simp (maxSteps := 1000000) (dsimp := false) (disch := omega) only [go_sem, simprocAttr, *] | ((first | refine stepsB_both (fun hh => ?_) (fun hh => ?_) | refine stepsXB_both (fun hh => ?_) (fun hh => ?_)) <;> (try simp (maxSteps := 1000000) (dsimp := false) (disch := omega) only [go_sem, simprocAttr, decide_eq_true_eq, decide_eq_false_iff_not, Bool.not_eq_true, Bool.not_eq_false, Bool.not_eq_true', Bool.not_eq_false', Int.not_lt, Int.not_le, bne_iff_ne, bne_eq_false_iff_eq, beq_iff_eq, beq_eq_false_iff_ne, ne_eq, Int.ofNat_inj, Int.natCast_inj] at hh) <;> (try (exfalso; omega))) | (refine wpB_cond (by simp (maxSteps := 1000000) (dsimp := false) (disch := omega) only [go_sem, simprocAttr, *]; exact rfl) (fun hh => ?_) (fun hh => ?_) <;> (try simp (maxSteps := 1000000) (dsimp := false) (disch := omega) only [go_sem, simprocAttr, decide_eq_true_eq, decide_eq_false_iff_not, Bool.not_eq_true, Bool.not_eq_false, Bool.not_eq_true', Bool.not_eq_false', Int.not_lt, Int.not_le, bne_iff_ne, bne_eq_false_iff_eq, beq_iff_eq, beq_eq_false_iff_ne, ne_eq, Int.ofNat_inj, Int.natCast_inj] at hh) <;> (try (exfalso; omega))))
  rw [if_neg hc0] at ha
  have hd : w.drop j = w[j] :: w.drop (j + 1) := List.drop_eq_getElem_cons hb
  rw [hd, runD] at ha
  have hcell : (w.map (D.int .i64))[j]? = some (.int .i64 w[j]) := by simp [hb]
  generalize w[j] = c at ha hcell
  have hn := next_in hr ht (c := c) (a := a) (by omega) ha1
  replace ha : Hid (G = if nextD d a c < 0 then -1 else runD d (nextD d a c) (w.drop (j + 1))) := ha
  by_cases hc : c < 0 ∨ 16 ≤ c
  · have : G = -1 := by rw [show G = _ from ha, if_pos (by unfold nextD; rw [if_pos hc]; decide)]
    subst this
    clear ha hn
    rcases hc with hc | hc
    · repeat' (first | refine wpB_seq ?_ | refine wpB_regionL rfl ?_ | refine wpB_block ?_ | refine wpB_skip ?_ | refine wpB_exit ?_ | refine wpB_ret ?_ | simp (maxSteps := 1000000) (dsimp := false) (disch := omega) only [go_sem, simprocAttr, *] | ((first | refine stepsB_both (fun hh => ?_) (fun hh => ?_) | refine stepsXB_both (fun hh => ?_) (fun hh => ?_)) <;> (try simp (maxSteps := 1000000) (dsimp := false) (disch := omega) only [go_sem, simprocAttr, decide_eq_true_eq, decide_eq_false_iff_not, Bool.not_eq_true, Bool.not_eq_false, Bool.not_eq_true', Bool.not_eq_false', Int.not_lt, Int.not_le, bne_iff_ne, bne_eq_false_iff_eq, beq_iff_eq, beq_eq_false_iff_ne, ne_eq, Int.ofNat_inj, Int.natCast_inj] at hh) <;> (try (exfalso; omega))) | (refine wpB_cond (by simp (maxSteps := 1000000) (dsimp := false) (disch := omega) only [go_sem, simprocAttr, *]; exact rfl) (fun hh => ?_) (fun hh => ?_) <;> (try simp (maxSteps := 1000000) (dsimp := false) (disch := omega) only [go_sem, simprocAttr, decide_eq_true_eq, decide_eq_false_iff_not, Bool.not_eq_true, Bool.not_eq_false, Bool.not_eq_true', Bool.not_eq_false', Int.not_lt, Int.not_le, bne_iff_ne, bne_eq_false_iff_eq, beq_iff_eq, beq_eq_false_iff_ne, ne_eq, Int.ofNat_inj, Int.natCast_inj] at hh) <;> (try (exfalso; omega))))
    · repeat' (first | refine wpB_seq ?_ | refine wpB_regionL rfl ?_ | refine wpB_block ?_ | refine wpB_skip ?_ | refine wpB_exit ?_ | refine wpB_ret ?_ | simp (maxSteps := 1000000) (dsimp := false) (disch := omega) only [go_sem, simprocAttr, *] | ((first | refine stepsB_both (fun hh => ?_) (fun hh => ?_) | refine stepsXB_both (fun hh => ?_) (fun hh => ?_)) <;> (try simp (maxSteps := 1000000) (dsimp := false) (disch := omega) only [go_sem, simprocAttr, decide_eq_true_eq, decide_eq_false_iff_not, Bool.not_eq_true, Bool.not_eq_false, Bool.not_eq_true', Bool.not_eq_false', Int.not_lt, Int.not_le, bne_iff_ne, bne_eq_false_iff_eq, beq_iff_eq, beq_eq_false_iff_ne, ne_eq, Int.ofNat_inj, Int.natCast_inj] at hh) <;> (try (exfalso; omega))) | (refine wpB_cond (by simp (maxSteps := 1000000) (dsimp := false) (disch := omega) only [go_sem, simprocAttr, *]; exact rfl) (fun hh => ?_) (fun hh => ?_) <;> (try simp (maxSteps := 1000000) (dsimp := false) (disch := omega) only [go_sem, simprocAttr, decide_eq_true_eq, decide_eq_false_iff_not, Bool.not_eq_true, Bool.not_eq_false, Bool.not_eq_true', Bool.not_eq_false', Int.not_lt, Int.not_le, bne_iff_ne, bne_eq_false_iff_eq, beq_iff_eq, beq_eq_false_iff_ne, ne_eq, Int.ofNat_inj, Int.natCast_inj] at hh) <;> (try (exfalso; omega))))
  have hba : a.toNat < d.next.length := by omega
  have hrow := row_get hba
  have hlen := ht _ (List.getElem_mem hba)
  have hz : nextD d a c = d.next[a.toNat].getD c.toNat 0 := by unfold nextD; rw [if_neg hc]; simp [List.getD, hba]
  rw [hz] at hn
  replace ha : Hid (G = if d.next[a.toNat].getD c.toNat 0 < 0 then -1 else runD d (d.next[a.toNat].getD c.toNat 0) (w.drop (j + 1))) := by rw [← hz]; exact ha
  clear hz
  generalize d.next[a.toNat] = row at hrow hlen hn ha
  have hil : c.toNat < row.length := by omega
  have hcell2 : (row.map (D.int .i64))[c.toNat * 1]? = some (.int .i64 row[c.toNat]) := by simp [hil]
  have hg : row.getD c.toNat 0 = row[c.toNat] := by simp [List.getD, hil]
  rw [hg] at ha hn
  generalize row[c.toNat] = t at hcell2 ha hn
  clear hg
  have hc1 : 0 ≤ c := by omega
  have hc2 : c < 16 := by omega
  clear hc
  have b1 := row_noTup row
  have b2 := row_cells row
  have b3 := row_aggQ row
  repeat' (first | refine wpB_seq ?_ | refine wpB_regionL rfl ?_ | refine wpB_block ?_ | refine wpB_skip ?_ | refine wpB_exit ?_ | refine wpB_ret ?_ | simp (maxSteps := 1000000) (dsimp := false) (disch := omega) only [go_sem, simprocAttr, *] | ((first | refine stepsB_both (fun hh => ?_) (fun hh => ?_) | refine stepsXB_both (fun hh => ?_) (fun hh => ?_)) <;> (try simp (maxSteps := 1000000) (dsimp := false) (disch := omega) only [go_sem, simprocAttr, decide_eq_true_eq, decide_eq_false_iff_not, Bool.not_eq_true, Bool.not_eq_false, Bool.not_eq_true', Bool.not_eq_false', Int.not_lt, Int.not_le, bne_iff_ne, bne_eq_false_iff_eq, beq_iff_eq, beq_eq_false_iff_ne, ne_eq, Int.ofNat_inj, Int.natCast_inj] at hh) <;> (try (exfalso; omega))) | (refine wpB_cond (by simp (maxSteps := 1000000) (dsimp := false) (disch := omega) only [go_sem, simprocAttr, *]; exact rfl) (fun hh => ?_) (fun hh => ?_) <;> (try simp (maxSteps := 1000000) (dsimp := false) (disch := omega) only [go_sem, simprocAttr, decide_eq_true_eq, decide_eq_false_iff_not, Bool.not_eq_true, Bool.not_eq_false, Bool.not_eq_true', Bool.not_eq_false', Int.not_lt, Int.not_le, bne_iff_ne, bne_eq_false_iff_eq, beq_iff_eq, beq_eq_false_iff_ne, ne_eq, Int.ofNat_inj, Int.natCast_inj] at hh) <;> (try (exfalso; omega))))
  refine wpB_regionXL (prs := []) (by kernel_rfl) rfl (by kernel_rfl) ?_; simp (maxSteps := 1000000) (dsimp := false) (disch := omega) only [go_sem, simprocAttr, *, rowD]
  repeat' (first | refine wpB_seq ?_ | refine wpB_regionL rfl ?_ | refine wpB_block ?_ | refine wpB_skip ?_ | refine wpB_exit ?_ | refine wpB_ret ?_ | simp (maxSteps := 1000000) (dsimp := false) (disch := omega) only [go_sem, simprocAttr, *] | ((first | refine stepsB_both (fun hh => ?_) (fun hh => ?_) | refine stepsXB_both (fun hh => ?_) (fun hh => ?_)) <;> (try simp (maxSteps := 1000000) (dsimp := false) (disch := omega) only [go_sem, simprocAttr, decide_eq_true_eq, decide_eq_false_iff_not, Bool.not_eq_true, Bool.not_eq_false, Bool.not_eq_true', Bool.not_eq_false', Int.not_lt, Int.not_le, bne_iff_ne, bne_eq_false_iff_eq, beq_iff_eq, beq_eq_false_iff_ne, ne_eq, Int.ofNat_inj, Int.natCast_inj] at hh) <;> (try (exfalso; omega))) | (refine wpB_cond (by simp (maxSteps := 1000000) (dsimp := false) (disch := omega) only [go_sem, simprocAttr, *]; exact rfl) (fun hh => ?_) (fun hh => ?_) <;> (try simp (maxSteps := 1000000) (dsimp := false) (disch := omega) only [go_sem, simprocAttr, decide_eq_true_eq, decide_eq_false_iff_not, Bool.not_eq_true, Bool.not_eq_false, Bool.not_eq_true', Bool.not_eq_false', Int.not_lt, Int.not_le, bne_iff_ne, bne_eq_false_iff_eq, beq_iff_eq, beq_eq_false_iff_ne, ne_eq, Int.ofNat_inj, Int.natCast_inj] at hh) <;> (try (exfalso; omega))))
  refine hR _ _ ⟨j + 1, t, by omega, gs, gs, gs, gs, gs, by omega, by omega, ?_⟩ ?_
  · rw [show G = _ from ha]
    by_cases h : t < 0
    · rw [if_pos h, if_pos h]; omega
    · rw [if_neg h, if_neg h]
  · simp (maxSteps := 1000000) (dsimp := false) (disch := omega) only [go_sem, simprocAttr, *, natOf_int]
/-- is it a match? -/
def goodD (d : Dfa) (a : Int) (w : List Int) : Bool := decide (0 ≤ runD d a w) && decide (0 ≤ ruleAt d (runD d a w))
/-- the longest beginning that is one, of so many at most -/
def refL (d : Dfa) (u : List Int) : Nat → Option Nat
  | 0 => none
  | m + 1 => if goodD d 0 (u.take (m + 1)) then some (m + 1) else refL d u m
def refP (d : Dfa) (u : List Int) (f : Int) : Option Nat → Int × Int
  | none => (-1, -1)
  | some m => (f + m, ruleAt d (runD d 0 (u.take m)))
theorem rlong_ok (d : Dfa) (w : List Int) (f : Int) (ht : tyM d) (hr : rightD d = true) (hw : w.length ≤ 1000000) : PureF Tryd.prog A 13 [dfaD d, isD w, .int .i64 f] (pairD (if f < 0 then (-1, -1) else refP d (w.drop f.toNat) f (refL d (w.drop f.toNat) (w.drop f.toNat).length))) := by
  have a1 := dfa_noTup d
  have a2 := dfa_cells d
  have a3 := dfa_aggQ d
  have hl := right_len hr
  have ew : isD w = .sl false (w.map (.int .i64)) := rfl
  refine evF_inB (n := 41) (rs := [.tmp 6, .tmp 7]) Tryd.func13 rfl rfl rfl rfl rfl rfl ?_
  by_cases hf : f < 0
  · rw [if_pos hf]
    repeat' (first | refine wpB_seq ?_ | refine wpB_regionL rfl ?_ | refine wpB_block ?_ | refine wpB_skip ?_ | refine wpB_exit ?_ | refine wpB_ret ?_ | simp (maxSteps := 1000000) (dsimp := false) (disch := omega) only [go_sem, simprocAttr, *, pairD] | ((first | refine stepsB_both (fun hh => ?_) (fun hh => ?_) | refine stepsXB_both (fun hh => ?_) (fun hh => ?_)) <;> (try simp (maxSteps := 1000000) (dsimp := false) (disch := omega) only [go_sem, simprocAttr, decide_eq_true_eq, decide_eq_false_iff_not, Bool.not_eq_true, Bool.not_eq_false, Bool.not_eq_true', Bool.not_eq_false', Int.not_lt, Int.not_le, bne_iff_ne, bne_eq_false_iff_eq, beq_iff_eq, beq_eq_false_iff_ne, ne_eq, Int.ofNat_inj, Int.natCast_inj] at hh) <;> (try (exfalso; omega))) | (refine wpB_cond (by simp (maxSteps := 1000000) (dsimp := false) (disch := omega) only [go_sem, simprocAttr, *, pairD]; exact rfl) (fun hh => ?_) (fun hh => ?_) <;> (try simp (maxSteps := 1000000) (dsimp := false) (disch := omega) only [go_sem, simprocAttr, decide_eq_true_eq, decide_eq_false_iff_not, Bool.not_eq_true, Bool.not_eq_false, Bool.not_eq_true', Bool.not_eq_false', Int.not_lt, Int.not_le, bne_iff_ne, bne_eq_false_iff_eq, beq_iff_eq, beq_eq_false_iff_ne, ne_eq, Int.ofNat_inj, Int.natCast_inj] at hh) <;> (try (exfalso; omega))))
    rfl
  rw [if_neg hf]
  have hwl : (w.drop f.toNat).length = w.length - f.toNat := List.length_drop
  generalize hu : w.drop f.toNat = u at hwl
  have hw1 : u.length ≤ w.length - f.toNat := by omega
  have hw2 : w.length - f.toNat ≤ u.length := by omega
  clear hwl
  generalize hG : refP d u f (refL d u u.length) = G
  replace hG : Hid (G = refP d u f (refL d u u.length)) := hG.symm
  repeat' (first | refine wpB_seq ?_ | refine wpB_regionL rfl ?_ | refine wpB_block ?_ | refine wpB_skip ?_ | refine wpB_exit ?_ | refine wpB_ret ?_ | simp (maxSteps := 1000000) (dsimp := false) (disch := omega) only [go_sem, simprocAttr, *] | ((first | refine stepsB_both (fun hh => ?_) (fun hh => ?_) | refine stepsXB_both (fun hh => ?_) (fun hh => ?_)) <;> (try simp (maxSteps := 1000000) (dsimp := false) (disch := omega) only [go_sem, simprocAttr, decide_eq_true_eq, decide_eq_false_iff_not, Bool.not_eq_true, Bool.not_eq_false, Bool.not_eq_true', Bool.not_eq_false', Int.not_lt, Int.not_le, bne_iff_ne, bne_eq_false_iff_eq, beq_iff_eq, beq_eq_false_iff_ne, ne_eq, Int.ofNat_inj, Int.natCast_inj] at hh) <;> (try (exfalso; omega))) | (refine wpB_cond (by simp (maxSteps := 1000000) (dsimp := false) (disch := omega) only [go_sem, simprocAttr, *]; exact rfl) (fun hh => ?_) (fun hh => ?_) <;> (try simp (maxSteps := 1000000) (dsimp := false) (disch := omega) only [go_sem, simprocAttr, decide_eq_true_eq, decide_eq_false_iff_not, Bool.not_eq_true, Bool.not_eq_false, Bool.not_eq_true', Bool.not_eq_false', Int.not_lt, Int.not_le, bne_iff_ne, bne_eq_false_iff_eq, beq_iff_eq, beq_eq_false_iff_ne, ne_eq, Int.ofNat_inj, Int.natCast_inj] at hh) <;> (try (exfalso; omega))))
  refine wpB_loop (fun e H => ∃ (m : Nat) (n : Int), m ≤ u.length ∧ (n = f + m ∨ m = 0 ∧ n ≤ f ∧ 0 ≤ n) ∧ hget H 0 = .arr [dfaD d] ∧ e 1 = isD w ∧ e 2 = .int .i64 f ∧ e 3 = .ptr 0 0 0 ∧ e 8 = .int .i64 n ∧ G = refP d u f (refL d u m)) (fun e H => natOf (e 8)) ?_ ?_
  · exact ⟨u.length, w.length, by omega, by omega, rfl, gs, gs, gs, gs, hG⟩
  clear hG
  rintro e H ⟨m, n, hm, hn, h0, e1, e2, e3, e8, ha⟩ R hR
  by_cases hb : m = 0
  · subst hb
    have : G = (-1, -1) := ha
    subst this
    clear ha
    have hn2 : n ≤ f := by omega
    clear hn
    repeat' (first | refine wpB_seq ?_ | refine wpB_regionL rfl ?_ | refine wpB_block ?_ | refine wpB_skip ?_ | refine wpB_exit ?_ | refine wpB_ret ?_ | simp (maxSteps := 1000000) (dsimp := false) (disch := omega) only [go_sem, simprocAttr, *, pairD] | ((first | refine stepsB_both (fun hh => ?_) (fun hh => ?_) | refine stepsXB_both (fun hh => ?_) (fun hh => ?_)) <;> (try simp (maxSteps := 1000000) (dsimp := false) (disch := omega) only [go_sem, simprocAttr, decide_eq_true_eq, decide_eq_false_iff_not, Bool.not_eq_true, Bool.not_eq_false, Bool.not_eq_true', Bool.not_eq_false', Int.not_lt, Int.not_le, bne_iff_ne, bne_eq_false_iff_eq, beq_iff_eq, beq_eq_false_iff_ne, ne_eq, Int.ofNat_inj, Int.natCast_inj] at hh) <;> (try (exfalso; omega))) | (refine wpB_cond (by simp (maxSteps := 1000000) (dsimp := false) (disch := omega) only [go_sem, simprocAttr, *, pairD]; exact rfl) (fun hh => ?_) (fun hh => ?_) <;> (try simp (maxSteps := 1000000) (dsimp := false) (disch := omega) only [go_sem, simprocAttr, decide_eq_true_eq, decide_eq_false_iff_not, Bool.not_eq_true, Bool.not_eq_false, Bool.not_eq_true', Bool.not_eq_false', Int.not_lt, Int.not_le, bne_iff_ne, bne_eq_false_iff_eq, beq_iff_eq, beq_eq_false_iff_ne, ne_eq, Int.ofNat_inj, Int.natCast_inj] at hh) <;> (try (exfalso; omega))))
    rfl
  obtain ⟨m, rfl⟩ : ∃ x, m = x + 1 := ⟨m - 1, by omega⟩
  have hn2 : n = f + (m + 1 : Nat) := by omega
  clear hn
  subst hn2
  have hsl : List.drop f.toNat (List.take (f + ((m + 1 : Nat) : Int)).toNat (List.map (D.int .i64) w)) = (u.take (m + 1)).map (.int .i64) := by
    rw [← List.map_take, ← List.map_drop, List.drop_take, hu, show (f + ((m + 1 : Nat) : Int)).toNat - f.toNat = m + 1 by omega]
  have hhd := headInts w
  have hal : (f + ((m + 1 : Nat) : Int)).toNat ≤ w.length := by omega
  have hfl : f.toNat ≤ (f + ((m + 1 : Nat) : Int)).toNat := by omega
  have hfp : 0 ≤ f + ((m + 1 : Nat) : Int) := by omega
  have hfe : ¬ (f + ((m + 1 : Nat) : Int) ≤ f) := by omega
  have hrr := rrun_ok d (u.take (m + 1)) ht hr (by rw [List.length_take]; omega)
  have hst := stripDw d (u.take (m + 1))
  rw [show isD (u.take (m + 1)) = .sl false ((u.take (m + 1)).map (.int .i64)) from rfl] at hrr hst
  have hin := runD_in hr ht (w := u.take (m + 1)) (a := 0) (by omega) (by omega)
  have hg : goodD d 0 (u.take (m + 1)) = (decide (0 ≤ runD d 0 (u.take (m + 1))) && decide (0 ≤ ruleAt d (runD d 0 (u.take (m + 1))))) := rfl
  replace ha : Hid (G = if goodD d 0 (u.take (m + 1)) then (f + ((m + 1 : Nat) : Int), ruleAt d (runD d 0 (u.take (m + 1)))) else refP d u f (refL d u m)) := by
    show G = _
    rw [ha, refL]
    split <;> rfl
  rw [hg] at ha
  clear hg hu
  generalize u.take (m + 1) = v at hsl hrr hst hin ha
  generalize hN : f + ((m + 1 : Nat) : Int) = N at hsl hal hfl hfp hfe e8 ha
  have hN2 : f < N := by omega
  have hN3 : N ≤ 1000000 := by omega
  repeat' (first | refine wpB_seq ?_ | refine wpB_regionL rfl ?_ | refine wpB_block ?_ | refine wpB_skip ?_ | refine wpB_exit ?_ | refine wpB_ret ?_ | simp (maxSteps := 1000000) (dsimp := false) (disch := omega) only [go_sem, simprocAttr, *] | ((first | refine stepsB_both (fun hh => ?_) (fun hh => ?_) | refine stepsXB_both (fun hh => ?_) (fun hh => ?_)) <;> (try simp (maxSteps := 1000000) (dsimp := false) (disch := omega) only [go_sem, simprocAttr, decide_eq_true_eq, decide_eq_false_iff_not, Bool.not_eq_true, Bool.not_eq_false, Bool.not_eq_true', Bool.not_eq_false', Int.not_lt, Int.not_le, bne_iff_ne, bne_eq_false_iff_eq, beq_iff_eq, beq_eq_false_iff_ne, ne_eq, Int.ofNat_inj, Int.natCast_inj] at hh) <;> (try (exfalso; omega))) | (refine wpB_cond (by simp (maxSteps := 1000000) (dsimp := false) (disch := omega) only [go_sem, simprocAttr, *]; exact rfl) (fun hh => ?_) (fun hh => ?_) <;> (try simp (maxSteps := 1000000) (dsimp := false) (disch := omega) only [go_sem, simprocAttr, decide_eq_true_eq, decide_eq_false_iff_not, Bool.not_eq_true, Bool.not_eq_false, Bool.not_eq_true', Bool.not_eq_false', Int.not_lt, Int.not_le, bne_iff_ne, bne_eq_false_iff_eq, beq_iff_eq, beq_eq_false_iff_ne, ne_eq, Int.ofNat_inj, Int.natCast_inj] at hh) <;> (try (exfalso; omega))))
  refine wpB_regionXL (prs := []) (by kernel_rfl) rfl (by kernel_rfl) ?_; simp (maxSteps := 1000000) (dsimp := false) (disch := omega) only [go_sem, simprocAttr, *]
  refine ⟨?_, evB_plain bo12 rfl rfl hst hrr ?_⟩
  · exact fun _ => rfl
  generalize runD d 0 v = a at hrr hin ha
  clear hrr hst hsl
  by_cases hc : a < 0
  · have : G = refP d u f (refL d u m) := by rw [show G = _ from ha]; simp; omega
    clear ha
    repeat' (first | refine wpB_seq ?_ | refine wpB_regionL rfl ?_ | refine wpB_block ?_ | refine wpB_skip ?_ | refine wpB_exit ?_ | refine wpB_ret ?_ | simp (maxSteps := 1000000) (dsimp := false) (disch := omega) only [go_sem, simprocAttr, *] | ((first | refine stepsB_both (fun hh => ?_) (fun hh => ?_) | refine stepsXB_both (fun hh => ?_) (fun hh => ?_)) <;> (try simp (maxSteps := 1000000) (dsimp := false) (disch := omega) only [go_sem, simprocAttr, decide_eq_true_eq, decide_eq_false_iff_not, Bool.not_eq_true, Bool.not_eq_false, Bool.not_eq_true', Bool.not_eq_false', Int.not_lt, Int.not_le, bne_iff_ne, bne_eq_false_iff_eq, beq_iff_eq, beq_eq_false_iff_ne, ne_eq, Int.ofNat_inj, Int.natCast_inj] at hh) <;> (try (exfalso; omega))) | (refine wpB_cond (by simp (maxSteps := 1000000) (dsimp := false) (disch := omega) only [go_sem, simprocAttr, *]; exact rfl) (fun hh => ?_) (fun hh => ?_) <;> (try simp (maxSteps := 1000000) (dsimp := false) (disch := omega) only [go_sem, simprocAttr, decide_eq_true_eq, decide_eq_false_iff_not, Bool.not_eq_true, Bool.not_eq_false, Bool.not_eq_true', Bool.not_eq_false', Int.not_lt, Int.not_le, bne_iff_ne, bne_eq_false_iff_eq, beq_iff_eq, beq_eq_false_iff_ne, ne_eq, Int.ofNat_inj, Int.natCast_inj] at hh) <;> (try (exfalso; omega))))
    refine hR _ _ ⟨m, N - 1, by omega, by omega, gs, gs, gs, gs, gs, this⟩ ?_
    simp (maxSteps := 1000000) (dsimp := false) (disch := omega) only [go_sem, simprocAttr, *, natOf_int]
  have hcr := rule_cell (d := d) (a := a) (by omega) (by omega)
  generalize ruleAt d a = q at ha hcr
  repeat' (first | refine wpB_seq ?_ | refine wpB_regionL rfl ?_ | refine wpB_block ?_ | refine wpB_skip ?_ | refine wpB_exit ?_ | refine wpB_ret ?_ | simp (maxSteps := 1000000) (dsimp := false) (disch := omega) only [go_sem, simprocAttr, *] | ((first | refine stepsB_both (fun hh => ?_) (fun hh => ?_) | refine stepsXB_both (fun hh => ?_) (fun hh => ?_)) <;> (try simp (maxSteps := 1000000) (dsimp := false) (disch := omega) only [go_sem, simprocAttr, decide_eq_true_eq, decide_eq_false_iff_not, Bool.not_eq_true, Bool.not_eq_false, Bool.not_eq_true', Bool.not_eq_false', Int.not_lt, Int.not_le, bne_iff_ne, bne_eq_false_iff_eq, beq_iff_eq, beq_eq_false_iff_ne, ne_eq, Int.ofNat_inj, Int.natCast_inj] at hh) <;> (try (exfalso; omega))) | (refine wpB_cond (by simp (maxSteps := 1000000) (dsimp := false) (disch := omega) only [go_sem, simprocAttr, *]; exact rfl) (fun hh => ?_) (fun hh => ?_) <;> (try simp (maxSteps := 1000000) (dsimp := false) (disch := omega) only [go_sem, simprocAttr, decide_eq_true_eq, decide_eq_false_iff_not, Bool.not_eq_true, Bool.not_eq_false, Bool.not_eq_true', Bool.not_eq_false', Int.not_lt, Int.not_le, bne_iff_ne, bne_eq_false_iff_eq, beq_iff_eq, beq_eq_false_iff_ne, ne_eq, Int.ofNat_inj, Int.natCast_inj] at hh) <;> (try (exfalso; omega))))
  · refine wpB_regionXL (prs := []) (by kernel_rfl) rfl (by kernel_rfl) ?_; simp (maxSteps := 1000000) (dsimp := false) (disch := omega) only [go_sem, simprocAttr, *, pairD]
    have : G = (N, q) := by rw [show G = _ from ha]; simp; omega
    subst this
    repeat' (first | refine wpB_seq ?_ | refine wpB_regionL rfl ?_ | refine wpB_block ?_ | refine wpB_skip ?_ | refine wpB_exit ?_ | refine wpB_ret ?_ | simp (maxSteps := 1000000) (dsimp := false) (disch := omega) only [go_sem, simprocAttr, *] | ((first | refine stepsB_both (fun hh => ?_) (fun hh => ?_) | refine stepsXB_both (fun hh => ?_) (fun hh => ?_)) <;> (try simp (maxSteps := 1000000) (dsimp := false) (disch := omega) only [go_sem, simprocAttr, decide_eq_true_eq, decide_eq_false_iff_not, Bool.not_eq_true, Bool.not_eq_false, Bool.not_eq_true', Bool.not_eq_false', Int.not_lt, Int.not_le, bne_iff_ne, bne_eq_false_iff_eq, beq_iff_eq, beq_eq_false_iff_ne, ne_eq, Int.ofNat_inj, Int.natCast_inj] at hh) <;> (try (exfalso; omega))) | (refine wpB_cond (by simp (maxSteps := 1000000) (dsimp := false) (disch := omega) only [go_sem, simprocAttr, *]; exact rfl) (fun hh => ?_) (fun hh => ?_) <;> (try simp (maxSteps := 1000000) (dsimp := false) (disch := omega) only [go_sem, simprocAttr, decide_eq_true_eq, decide_eq_false_iff_not, Bool.not_eq_true, Bool.not_eq_false, Bool.not_eq_true', Bool.not_eq_false', Int.not_lt, Int.not_le, bne_iff_ne, bne_eq_false_iff_eq, beq_iff_eq, beq_eq_false_iff_ne, ne_eq, Int.ofNat_inj, Int.natCast_inj] at hh) <;> (try (exfalso; omega))))
    rfl
  · have : G = refP d u f (refL d u m) := by rw [show G = _ from ha]; simp; omega
    clear ha
    repeat' (first | refine wpB_seq ?_ | refine wpB_regionL rfl ?_ | refine wpB_block ?_ | refine wpB_skip ?_ | refine wpB_exit ?_ | refine wpB_ret ?_ | simp (maxSteps := 1000000) (dsimp := false) (disch := omega) only [go_sem, simprocAttr, *] | ((first | refine stepsB_both (fun hh => ?_) (fun hh => ?_) | refine stepsXB_both (fun hh => ?_) (fun hh => ?_)) <;> (try simp (maxSteps := 1000000) (dsimp := false) (disch := omega) only [go_sem, simprocAttr, decide_eq_true_eq, decide_eq_false_iff_not, Bool.not_eq_true, Bool.not_eq_false, Bool.not_eq_true', Bool.not_eq_false', Int.not_lt, Int.not_le, bne_iff_ne, bne_eq_false_iff_eq, beq_iff_eq, beq_eq_false_iff_ne, ne_eq, Int.ofNat_inj, Int.natCast_inj] at hh) <;> (try (exfalso; omega))) | (refine wpB_cond (by simp (maxSteps := 1000000) (dsimp := false) (disch := omega) only [go_sem, simprocAttr, *]; exact rfl) (fun hh => ?_) (fun hh => ?_) <;> (try simp (maxSteps := 1000000) (dsimp := false) (disch := omega) only [go_sem, simprocAttr, decide_eq_true_eq, decide_eq_false_iff_not, Bool.not_eq_true, Bool.not_eq_false, Bool.not_eq_true', Bool.not_eq_false', Int.not_lt, Int.not_le, bne_iff_ne, bne_eq_false_iff_eq, beq_iff_eq, beq_eq_false_iff_ne, ne_eq, Int.ofNat_inj, Int.natCast_inj] at hh) <;> (try (exfalso; omega))))
    refine hR _ _ ⟨m, N - 1, by omega, by omega, gs, gs, gs, gs, gs, this⟩ ?_
    simp (maxSteps := 1000000) (dsimp := false) (disch := omega) only [go_sem, simprocAttr, *, natOf_int]
end Go.Proofs.W
end
/- The laws on runs of machines without free steps, and on beginnings of words. -/
section
set_option maxHeartbeats 4000000
set_option linter.unusedVariables false
set_option linter.unusedSimpArgs false
namespace Go.Proofs.W
open Go Vm Go.Proofs.Zs07

def refA (d : Dfa) (a : Int) (u : List Int) : Nat → Option Nat
  | 0 => none
  | m + 1 => if goodD d a (u.take (m + 1)) then some (m + 1) else refA d a u m
theorem refL_eq (d : Dfa) (u : List Int) : ∀ m, refL d u m = refA d 0 u m
  | 0 => rfl
  | m + 1 => by simp only [refL, refA, refL_eq d u m]
theorem good_neg {d : Dfa} {a c : Int} {v : List Int} (h : nextD d a c < 0) : goodD d a (c :: v) = false := by
  unfold goodD
  rw [runD, if_pos h]; rfl
theorem good_pos {d : Dfa} {a c : Int} {v : List Int} (h : ¬ nextD d a c < 0) : goodD d a (c :: v) = goodD d (nextD d a c) v := by
  unfold goodD
  rw [runD, if_neg h]
theorem refA_neg {d : Dfa} {a c : Int} {w : List Int} (h : nextD d a c < 0) : ∀ m, refA d a (c :: w) m = none
  | 0 => rfl
  | m + 1 => by
    rw [refA, List.take_succ_cons, good_neg h]
    exact refA_neg h m
theorem refA_pos {d : Dfa} {a c : Int} {w : List Int} (h : ¬ nextD d a c < 0) : ∀ m, refA d a (c :: w) (m + 1) = match refA d (nextD d a c) w m with
    | some k => some (k + 1)
    | none => if goodD d (nextD d a c) [] then some 1 else none
  | 0 => by
    show (if goodD d a [c] then some 1 else none) = _
    rw [good_pos h]
    rfl
  | m + 1 => by
    rw [refA, List.take_succ_cons, good_pos h, refA_pos h m]
    conv => rhs; rw [refA]
    cases goodD d (nextD d a c) (w.take (m + 1)) <;> simp
theorem lg_ref (d : Dfa) : ∀ (u : List Int) (a p : Int) (er : Int × Int), 0 ≤ a → lgD d a p u er = match refA d a u u.length with
    | none => er
    | some m => (p + m, ruleAt d (runD d a (u.take m)))
  | [], a, p, er, h => rfl
  | c :: w, a, p, er, h => by
    rw [lgD]
    by_cases ht : nextD d a c < 0
    · rw [if_pos ht, refA_neg ht]
    · rw [if_neg ht, lg_ref d w _ _ _ (by omega), List.length_cons, refA_pos ht]
      cases hk : refA d (nextD d a c) w w.length with
      | none =>
        simp only
        have hg : goodD d (nextD d a c) [] = (decide (0 ≤ nextD d a c) && decide (0 ≤ ruleAt d (nextD d a c))) := rfl
        rw [hg]
        by_cases hq : 0 ≤ ruleAt d (nextD d a c)
        · have : (decide (0 ≤ nextD d a c) && decide (0 ≤ ruleAt d (nextD d a c))) = true := by simp; omega
          rw [if_pos hq, if_pos this]
          simp only [List.take_succ_cons, List.take_zero, runD, if_neg ht]
          rfl
        · have : ¬ (decide (0 ≤ nextD d a c) && decide (0 ≤ ruleAt d (nextD d a c))) = true := by simp; omega
          rw [if_neg hq, if_neg this]
      | some k =>
        simp only [List.take_succ_cons, runD, if_neg ht]
        congr 1
        omega
theorem long_ref {d : Dfa} (hr : rightD d = true) (w : List Int) (f : Int) : (if f < 0 then (-1, -1) else refP d (w.drop f.toNat) f (refL d (w.drop f.toNat) (w.drop f.toNat).length)) = longD d w f := by
  unfold longD
  by_cases h0 : f < 0
  · rw [if_pos h0, if_neg (by omega)]
  rw [if_neg h0, refL_eq]
  by_cases h1 : f ≤ w.length
  · rw [if_pos ⟨hr, by omega, h1⟩, lg_ref _ _ _ _ _ (by omega)]
    cases refA d 0 (w.drop f.toNat) (w.drop f.toNat).length <;> rfl
  · rw [if_neg (by omega), List.drop_eq_nil_of_le (by omega)]
    rfl
theorem runs_law (d : Dfa) (w : List Int) (f : Int) (ht : tyM d) : Yes 3 [dfaD d, isD w, .int .i64 f] := by
  have a1 := dfa_noTup d
  have a2 := dfa_cells d
  have a3 := dfa_aggQ d
  have ew : isD w = .sl false (w.map (.int .i64)) := rfl
  refine evF_inB (n := 106) (rs := [.tmp 6]) Tryd.func3 rfl rfl rfl rfl rfl rfl ?_
  repeat' (first | refine wpB_seq ?_ | refine wpB_regionL rfl ?_ | refine wpB_block ?_ | refine wpB_skip ?_ | refine wpB_exit ?_ | refine wpB_ret ?_ | simp (maxSteps := 1000000) (dsimp := false) (disch := omega) only [go_sem, simprocAttr, *] | ((first | refine stepsB_both (fun hh => ?_) (fun hh => ?_) | refine stepsXB_both (fun hh => ?_) (fun hh => ?_)) <;> (try simp (maxSteps := 1000000) (dsimp := false) (disch := omega) only [go_sem, simprocAttr, decide_eq_true_eq, decide_eq_false_iff_not, Bool.not_eq_true, Bool.not_eq_false, Bool.not_eq_true', Bool.not_eq_false', Int.not_lt, Int.not_le, bne_iff_ne, bne_eq_false_iff_eq, beq_iff_eq, beq_eq_false_iff_ne, ne_eq, Int.ofNat_inj, Int.natCast_inj] at hh) <;> (try (exfalso; omega))) | (refine wpB_cond (by simp (maxSteps := 1000000) (dsimp := false) (disch := omega) only [go_sem, simprocAttr, *]; exact rfl) (fun hh => ?_) (fun hh => ?_) <;> (try simp (maxSteps := 1000000) (dsimp := false) (disch := omega) only [go_sem, simprocAttr, decide_eq_true_eq, decide_eq_false_iff_not, Bool.not_eq_true, Bool.not_eq_false, Bool.not_eq_true', Bool.not_eq_false', Int.not_lt, Int.not_le, bne_iff_ne, bne_eq_false_iff_eq, beq_iff_eq, beq_eq_false_iff_ne, ne_eq, Int.ofNat_inj, Int.natCast_inj] at hh) <;> (try (exfalso; omega))))
  refine evB_plain bo6 rfl rfl rfl alive_ok ?_
  repeat' (first | refine wpB_seq ?_ | refine wpB_regionL rfl ?_ | refine wpB_block ?_ | refine wpB_skip ?_ | refine wpB_exit ?_ | refine wpB_ret ?_ | simp (maxSteps := 1000000) (dsimp := false) (disch := omega) only [go_sem, simprocAttr, *] | ((first | refine stepsB_both (fun hh => ?_) (fun hh => ?_) | refine stepsXB_both (fun hh => ?_) (fun hh => ?_)) <;> (try simp (maxSteps := 1000000) (dsimp := false) (disch := omega) only [go_sem, simprocAttr, decide_eq_true_eq, decide_eq_false_iff_not, Bool.not_eq_true, Bool.not_eq_false, Bool.not_eq_true', Bool.not_eq_false', Int.not_lt, Int.not_le, bne_iff_ne, bne_eq_false_iff_eq, beq_iff_eq, beq_eq_false_iff_ne, ne_eq, Int.ofNat_inj, Int.natCast_inj] at hh) <;> (try (exfalso; omega))) | (refine wpB_cond (by simp (maxSteps := 1000000) (dsimp := false) (disch := omega) only [go_sem, simprocAttr, *]; exact rfl) (fun hh => ?_) (fun hh => ?_) <;> (try simp (maxSteps := 1000000) (dsimp := false) (disch := omega) only [go_sem, simprocAttr, decide_eq_true_eq, decide_eq_false_iff_not, Bool.not_eq_true, Bool.not_eq_false, Bool.not_eq_true', Bool.not_eq_false', Int.not_lt, Int.not_le, bne_iff_ne, bne_eq_false_iff_eq, beq_iff_eq, beq_eq_false_iff_ne, ne_eq, Int.ofNat_inj, Int.natCast_inj] at hh) <;> (try (exfalso; omega))))
  have hlo := dlong_ok d w f ht (by omega) (by omega) (by omega)
  have hri := rright_ok d ht (by omega) (by omega)
  have hdr := dright_ok d ht (by omega) (by omega)
  have hru := drun_ok d w ht (by omega) (by omega) (by omega)
  have hma := dmatch_ok d w ht (by omega) (by omega) (by omega)
  have s1 := stripD d
  have s2 := stripDw d w
  have s3 := stripDwi d w f
  refine evB_plain bo7 rfl rfl s3 hlo ?_
  clear hlo
  cases hr : rightD d with
  | false =>
    have hz : longD d w f = (-1, -1) := by unfold longD; rw [hr]; simp
    have hm : matchD d w = -1 := by unfold matchD; rw [hr]; rfl
    rw [hz]
    rw [hr] at hri hdr hru
    rw [hm] at hma
    clear hm hz
    repeat' (first | refine wpB_seq ?_ | refine wpB_regionL rfl ?_ | refine wpB_block ?_ | refine wpB_skip ?_ | refine wpB_exit ?_ | refine wpB_ret ?_ | simp (maxSteps := 1000000) (dsimp := false) (disch := omega) only [go_sem, simprocAttr, *, pairD] | ((first | refine stepsB_both (fun hh => ?_) (fun hh => ?_) | refine stepsXB_both (fun hh => ?_) (fun hh => ?_)) <;> (try simp (maxSteps := 1000000) (dsimp := false) (disch := omega) only [go_sem, simprocAttr, decide_eq_true_eq, decide_eq_false_iff_not, Bool.not_eq_true, Bool.not_eq_false, Bool.not_eq_true', Bool.not_eq_false', Int.not_lt, Int.not_le, bne_iff_ne, bne_eq_false_iff_eq, beq_iff_eq, beq_eq_false_iff_ne, ne_eq, Int.ofNat_inj, Int.natCast_inj] at hh) <;> (try (exfalso; omega))) | (refine wpB_cond (by simp (maxSteps := 1000000) (dsimp := false) (disch := omega) only [go_sem, simprocAttr, *, pairD]; exact rfl) (fun hh => ?_) (fun hh => ?_) <;> (try simp (maxSteps := 1000000) (dsimp := false) (disch := omega) only [go_sem, simprocAttr, decide_eq_true_eq, decide_eq_false_iff_not, Bool.not_eq_true, Bool.not_eq_false, Bool.not_eq_true', Bool.not_eq_false', Int.not_lt, Int.not_le, bne_iff_ne, bne_eq_false_iff_eq, beq_iff_eq, beq_eq_false_iff_ne, ne_eq, Int.ofNat_inj, Int.natCast_inj] at hh) <;> (try (exfalso; omega))))
    refine evB_plain bo8 rfl rfl s1 hri ?_
    repeat' (first | refine wpB_seq ?_ | refine wpB_regionL rfl ?_ | refine wpB_block ?_ | refine wpB_skip ?_ | refine wpB_exit ?_ | refine wpB_ret ?_ | simp (maxSteps := 1000000) (dsimp := false) (disch := omega) only [go_sem, simprocAttr, *] | ((first | refine stepsB_both (fun hh => ?_) (fun hh => ?_) | refine stepsXB_both (fun hh => ?_) (fun hh => ?_)) <;> (try simp (maxSteps := 1000000) (dsimp := false) (disch := omega) only [go_sem, simprocAttr, decide_eq_true_eq, decide_eq_false_iff_not, Bool.not_eq_true, Bool.not_eq_false, Bool.not_eq_true', Bool.not_eq_false', Int.not_lt, Int.not_le, bne_iff_ne, bne_eq_false_iff_eq, beq_iff_eq, beq_eq_false_iff_ne, ne_eq, Int.ofNat_inj, Int.natCast_inj] at hh) <;> (try (exfalso; omega))) | (refine wpB_cond (by simp (maxSteps := 1000000) (dsimp := false) (disch := omega) only [go_sem, simprocAttr, *]; exact rfl) (fun hh => ?_) (fun hh => ?_) <;> (try simp (maxSteps := 1000000) (dsimp := false) (disch := omega) only [go_sem, simprocAttr, decide_eq_true_eq, decide_eq_false_iff_not, Bool.not_eq_true, Bool.not_eq_false, Bool.not_eq_true', Bool.not_eq_false', Int.not_lt, Int.not_le, bne_iff_ne, bne_eq_false_iff_eq, beq_iff_eq, beq_eq_false_iff_ne, ne_eq, Int.ofNat_inj, Int.natCast_inj] at hh) <;> (try (exfalso; omega))))
    refine evB_plain bo9 rfl rfl s1 hdr ?_
    repeat' (first | refine wpB_seq ?_ | refine wpB_regionL rfl ?_ | refine wpB_block ?_ | refine wpB_skip ?_ | refine wpB_exit ?_ | refine wpB_ret ?_ | simp (maxSteps := 1000000) (dsimp := false) (disch := omega) only [go_sem, simprocAttr, *] | ((first | refine stepsB_both (fun hh => ?_) (fun hh => ?_) | refine stepsXB_both (fun hh => ?_) (fun hh => ?_)) <;> (try simp (maxSteps := 1000000) (dsimp := false) (disch := omega) only [go_sem, simprocAttr, decide_eq_true_eq, decide_eq_false_iff_not, Bool.not_eq_true, Bool.not_eq_false, Bool.not_eq_true', Bool.not_eq_false', Int.not_lt, Int.not_le, bne_iff_ne, bne_eq_false_iff_eq, beq_iff_eq, beq_eq_false_iff_ne, ne_eq, Int.ofNat_inj, Int.natCast_inj] at hh) <;> (try (exfalso; omega))) | (refine wpB_cond (by simp (maxSteps := 1000000) (dsimp := false) (disch := omega) only [go_sem, simprocAttr, *]; exact rfl) (fun hh => ?_) (fun hh => ?_) <;> (try simp (maxSteps := 1000000) (dsimp := false) (disch := omega) only [go_sem, simprocAttr, decide_eq_true_eq, decide_eq_false_iff_not, Bool.not_eq_true, Bool.not_eq_false, Bool.not_eq_true', Bool.not_eq_false', Int.not_lt, Int.not_le, bne_iff_ne, bne_eq_false_iff_eq, beq_iff_eq, beq_eq_false_iff_ne, ne_eq, Int.ofNat_inj, Int.natCast_inj] at hh) <;> (try (exfalso; omega))))
    refine evB_plain bo10 rfl rfl s2 hru ?_
    repeat' (first | refine wpB_seq ?_ | refine wpB_regionL rfl ?_ | refine wpB_block ?_ | refine wpB_skip ?_ | refine wpB_exit ?_ | refine wpB_ret ?_ | simp (maxSteps := 1000000) (dsimp := false) (disch := omega) only [go_sem, simprocAttr, *] | ((first | refine stepsB_both (fun hh => ?_) (fun hh => ?_) | refine stepsXB_both (fun hh => ?_) (fun hh => ?_)) <;> (try simp (maxSteps := 1000000) (dsimp := false) (disch := omega) only [go_sem, simprocAttr, decide_eq_true_eq, decide_eq_false_iff_not, Bool.not_eq_true, Bool.not_eq_false, Bool.not_eq_true', Bool.not_eq_false', Int.not_lt, Int.not_le, bne_iff_ne, bne_eq_false_iff_eq, beq_iff_eq, beq_eq_false_iff_ne, ne_eq, Int.ofNat_inj, Int.natCast_inj] at hh) <;> (try (exfalso; omega))) | (refine wpB_cond (by simp (maxSteps := 1000000) (dsimp := false) (disch := omega) only [go_sem, simprocAttr, *]; exact rfl) (fun hh => ?_) (fun hh => ?_) <;> (try simp (maxSteps := 1000000) (dsimp := false) (disch := omega) only [go_sem, simprocAttr, decide_eq_true_eq, decide_eq_false_iff_not, Bool.not_eq_true, Bool.not_eq_false, Bool.not_eq_true', Bool.not_eq_false', Int.not_lt, Int.not_le, bne_iff_ne, bne_eq_false_iff_eq, beq_iff_eq, beq_eq_false_iff_ne, ne_eq, Int.ofNat_inj, Int.natCast_inj] at hh) <;> (try (exfalso; omega))))
    refine evB_plain bo11 rfl rfl s2 hma ?_
    repeat' (first | refine wpB_seq ?_ | refine wpB_regionL rfl ?_ | refine wpB_block ?_ | refine wpB_skip ?_ | refine wpB_exit ?_ | refine wpB_ret ?_ | simp (maxSteps := 1000000) (dsimp := false) (disch := omega) only [go_sem, simprocAttr, *] | ((first | refine stepsB_both (fun hh => ?_) (fun hh => ?_) | refine stepsXB_both (fun hh => ?_) (fun hh => ?_)) <;> (try simp (maxSteps := 1000000) (dsimp := false) (disch := omega) only [go_sem, simprocAttr, decide_eq_true_eq, decide_eq_false_iff_not, Bool.not_eq_true, Bool.not_eq_false, Bool.not_eq_true', Bool.not_eq_false', Int.not_lt, Int.not_le, bne_iff_ne, bne_eq_false_iff_eq, beq_iff_eq, beq_eq_false_iff_ne, ne_eq, Int.ofNat_inj, Int.natCast_inj] at hh) <;> (try (exfalso; omega))) | (refine wpB_cond (by simp (maxSteps := 1000000) (dsimp := false) (disch := omega) only [go_sem, simprocAttr, *]; exact rfl) (fun hh => ?_) (fun hh => ?_) <;> (try simp (maxSteps := 1000000) (dsimp := false) (disch := omega) only [go_sem, simprocAttr, decide_eq_true_eq, decide_eq_false_iff_not, Bool.not_eq_true, Bool.not_eq_false, Bool.not_eq_true', Bool.not_eq_false', Int.not_lt, Int.not_le, bne_iff_ne, bne_eq_false_iff_eq, beq_iff_eq, beq_eq_false_iff_ne, ne_eq, Int.ofNat_inj, Int.natCast_inj] at hh) <;> (try (exfalso; omega))))
  | true =>
    have hl := right_len hr
    have hin := runD_in hr ht (w := w) (a := 0) (by omega) (by omega)
    have hrr := rrun_ok d w ht hr (by omega)
    have hrl := rlong_ok d w f ht hr (by omega)
    rw [long_ref hr] at hrl
    rw [hr] at hri hdr hru
    rw [if_pos rfl] at hru
    have hm : matchD d w = if runD d 0 w < 0 then -1 else ruleAt d (runD d 0 w) := by unfold matchD; rw [hr]; rfl
    rw [hm] at hma
    clear hm
    generalize longD d w f = x at hrl
    obtain ⟨x1, x2⟩ := x
    generalize runD d 0 w = a at hin hrr hru hma
    have hcr : ¬ a < 0 → (d.rule.map (D.int .i64))[a.toNat]? = some (.int .i64 (ruleAt d a)) := fun h => rule_cell (by omega) (by omega)
    generalize ruleAt d a = q at hma hcr
    repeat' (first | refine wpB_seq ?_ | refine wpB_regionL rfl ?_ | refine wpB_block ?_ | refine wpB_skip ?_ | refine wpB_exit ?_ | refine wpB_ret ?_ | simp (maxSteps := 1000000) (dsimp := false) (disch := omega) only [go_sem, simprocAttr, *, pairD] | ((first | refine stepsB_both (fun hh => ?_) (fun hh => ?_) | refine stepsXB_both (fun hh => ?_) (fun hh => ?_)) <;> (try simp (maxSteps := 1000000) (dsimp := false) (disch := omega) only [go_sem, simprocAttr, decide_eq_true_eq, decide_eq_false_iff_not, Bool.not_eq_true, Bool.not_eq_false, Bool.not_eq_true', Bool.not_eq_false', Int.not_lt, Int.not_le, bne_iff_ne, bne_eq_false_iff_eq, beq_iff_eq, beq_eq_false_iff_ne, ne_eq, Int.ofNat_inj, Int.natCast_inj] at hh) <;> (try (exfalso; omega))) | (refine wpB_cond (by simp (maxSteps := 1000000) (dsimp := false) (disch := omega) only [go_sem, simprocAttr, *, pairD]; exact rfl) (fun hh => ?_) (fun hh => ?_) <;> (try simp (maxSteps := 1000000) (dsimp := false) (disch := omega) only [go_sem, simprocAttr, decide_eq_true_eq, decide_eq_false_iff_not, Bool.not_eq_true, Bool.not_eq_false, Bool.not_eq_true', Bool.not_eq_false', Int.not_lt, Int.not_le, bne_iff_ne, bne_eq_false_iff_eq, beq_iff_eq, beq_eq_false_iff_ne, ne_eq, Int.ofNat_inj, Int.natCast_inj] at hh) <;> (try (exfalso; omega))))
    refine evB_plain bo8 rfl rfl s1 hri ?_
    repeat' (first | refine wpB_seq ?_ | refine wpB_regionL rfl ?_ | refine wpB_block ?_ | refine wpB_skip ?_ | refine wpB_exit ?_ | refine wpB_ret ?_ | simp (maxSteps := 1000000) (dsimp := false) (disch := omega) only [go_sem, simprocAttr, *] | ((first | refine stepsB_both (fun hh => ?_) (fun hh => ?_) | refine stepsXB_both (fun hh => ?_) (fun hh => ?_)) <;> (try simp (maxSteps := 1000000) (dsimp := false) (disch := omega) only [go_sem, simprocAttr, decide_eq_true_eq, decide_eq_false_iff_not, Bool.not_eq_true, Bool.not_eq_false, Bool.not_eq_true', Bool.not_eq_false', Int.not_lt, Int.not_le, bne_iff_ne, bne_eq_false_iff_eq, beq_iff_eq, beq_eq_false_iff_ne, ne_eq, Int.ofNat_inj, Int.natCast_inj] at hh) <;> (try (exfalso; omega))) | (refine wpB_cond (by simp (maxSteps := 1000000) (dsimp := false) (disch := omega) only [go_sem, simprocAttr, *]; exact rfl) (fun hh => ?_) (fun hh => ?_) <;> (try simp (maxSteps := 1000000) (dsimp := false) (disch := omega) only [go_sem, simprocAttr, decide_eq_true_eq, decide_eq_false_iff_not, Bool.not_eq_true, Bool.not_eq_false, Bool.not_eq_true', Bool.not_eq_false', Int.not_lt, Int.not_le, bne_iff_ne, bne_eq_false_iff_eq, beq_iff_eq, beq_eq_false_iff_ne, ne_eq, Int.ofNat_inj, Int.natCast_inj] at hh) <;> (try (exfalso; omega))))
    refine evB_plain bo12 rfl rfl s2 hrr ?_
    by_cases hc : a < 0
    · rw [if_pos hc] at hma
      clear hcr
      repeat' (first | refine wpB_seq ?_ | refine wpB_regionL rfl ?_ | refine wpB_block ?_ | refine wpB_skip ?_ | refine wpB_exit ?_ | refine wpB_ret ?_ | simp (maxSteps := 1000000) (dsimp := false) (disch := omega) only [go_sem, simprocAttr, *] | ((first | refine stepsB_both (fun hh => ?_) (fun hh => ?_) | refine stepsXB_both (fun hh => ?_) (fun hh => ?_)) <;> (try simp (maxSteps := 1000000) (dsimp := false) (disch := omega) only [go_sem, simprocAttr, decide_eq_true_eq, decide_eq_false_iff_not, Bool.not_eq_true, Bool.not_eq_false, Bool.not_eq_true', Bool.not_eq_false', Int.not_lt, Int.not_le, bne_iff_ne, bne_eq_false_iff_eq, beq_iff_eq, beq_eq_false_iff_ne, ne_eq, Int.ofNat_inj, Int.natCast_inj] at hh) <;> (try (exfalso; omega))) | (refine wpB_cond (by simp (maxSteps := 1000000) (dsimp := false) (disch := omega) only [go_sem, simprocAttr, *]; exact rfl) (fun hh => ?_) (fun hh => ?_) <;> (try simp (maxSteps := 1000000) (dsimp := false) (disch := omega) only [go_sem, simprocAttr, decide_eq_true_eq, decide_eq_false_iff_not, Bool.not_eq_true, Bool.not_eq_false, Bool.not_eq_true', Bool.not_eq_false', Int.not_lt, Int.not_le, bne_iff_ne, bne_eq_false_iff_eq, beq_iff_eq, beq_eq_false_iff_ne, ne_eq, Int.ofNat_inj, Int.natCast_inj] at hh) <;> (try (exfalso; omega))))
      refine evB_plain bo13 rfl rfl s3 hrl ?_
      repeat' (first | refine wpB_seq ?_ | refine wpB_regionL rfl ?_ | refine wpB_block ?_ | refine wpB_skip ?_ | refine wpB_exit ?_ | refine wpB_ret ?_ | simp (maxSteps := 1000000) (dsimp := false) (disch := omega) only [go_sem, simprocAttr, *, pairD] | ((first | refine stepsB_both (fun hh => ?_) (fun hh => ?_) | refine stepsXB_both (fun hh => ?_) (fun hh => ?_)) <;> (try simp (maxSteps := 1000000) (dsimp := false) (disch := omega) only [go_sem, simprocAttr, decide_eq_true_eq, decide_eq_false_iff_not, Bool.not_eq_true, Bool.not_eq_false, Bool.not_eq_true', Bool.not_eq_false', Int.not_lt, Int.not_le, bne_iff_ne, bne_eq_false_iff_eq, beq_iff_eq, beq_eq_false_iff_ne, ne_eq, Int.ofNat_inj, Int.natCast_inj] at hh) <;> (try (exfalso; omega))) | (refine wpB_cond (by simp (maxSteps := 1000000) (dsimp := false) (disch := omega) only [go_sem, simprocAttr, *, pairD]; exact rfl) (fun hh => ?_) (fun hh => ?_) <;> (try simp (maxSteps := 1000000) (dsimp := false) (disch := omega) only [go_sem, simprocAttr, decide_eq_true_eq, decide_eq_false_iff_not, Bool.not_eq_true, Bool.not_eq_false, Bool.not_eq_true', Bool.not_eq_false', Int.not_lt, Int.not_le, bne_iff_ne, bne_eq_false_iff_eq, beq_iff_eq, beq_eq_false_iff_ne, ne_eq, Int.ofNat_inj, Int.natCast_inj] at hh) <;> (try (exfalso; omega))))
      refine evB_plain bo9 rfl rfl s1 hdr ?_
      repeat' (first | refine wpB_seq ?_ | refine wpB_regionL rfl ?_ | refine wpB_block ?_ | refine wpB_skip ?_ | refine wpB_exit ?_ | refine wpB_ret ?_ | simp (maxSteps := 1000000) (dsimp := false) (disch := omega) only [go_sem, simprocAttr, *] | ((first | refine stepsB_both (fun hh => ?_) (fun hh => ?_) | refine stepsXB_both (fun hh => ?_) (fun hh => ?_)) <;> (try simp (maxSteps := 1000000) (dsimp := false) (disch := omega) only [go_sem, simprocAttr, decide_eq_true_eq, decide_eq_false_iff_not, Bool.not_eq_true, Bool.not_eq_false, Bool.not_eq_true', Bool.not_eq_false', Int.not_lt, Int.not_le, bne_iff_ne, bne_eq_false_iff_eq, beq_iff_eq, beq_eq_false_iff_ne, ne_eq, Int.ofNat_inj, Int.natCast_inj] at hh) <;> (try (exfalso; omega))) | (refine wpB_cond (by simp (maxSteps := 1000000) (dsimp := false) (disch := omega) only [go_sem, simprocAttr, *]; exact rfl) (fun hh => ?_) (fun hh => ?_) <;> (try simp (maxSteps := 1000000) (dsimp := false) (disch := omega) only [go_sem, simprocAttr, decide_eq_true_eq, decide_eq_false_iff_not, Bool.not_eq_true, Bool.not_eq_false, Bool.not_eq_true', Bool.not_eq_false', Int.not_lt, Int.not_le, bne_iff_ne, bne_eq_false_iff_eq, beq_iff_eq, beq_eq_false_iff_ne, ne_eq, Int.ofNat_inj, Int.natCast_inj] at hh) <;> (try (exfalso; omega))))
      refine evB_plain bo10 rfl rfl s2 hru ?_
      repeat' (first | refine wpB_seq ?_ | refine wpB_regionL rfl ?_ | refine wpB_block ?_ | refine wpB_skip ?_ | refine wpB_exit ?_ | refine wpB_ret ?_ | simp (maxSteps := 1000000) (dsimp := false) (disch := omega) only [go_sem, simprocAttr, *] | ((first | refine stepsB_both (fun hh => ?_) (fun hh => ?_) | refine stepsXB_both (fun hh => ?_) (fun hh => ?_)) <;> (try simp (maxSteps := 1000000) (dsimp := false) (disch := omega) only [go_sem, simprocAttr, decide_eq_true_eq, decide_eq_false_iff_not, Bool.not_eq_true, Bool.not_eq_false, Bool.not_eq_true', Bool.not_eq_false', Int.not_lt, Int.not_le, bne_iff_ne, bne_eq_false_iff_eq, beq_iff_eq, beq_eq_false_iff_ne, ne_eq, Int.ofNat_inj, Int.natCast_inj] at hh) <;> (try (exfalso; omega))) | (refine wpB_cond (by simp (maxSteps := 1000000) (dsimp := false) (disch := omega) only [go_sem, simprocAttr, *]; exact rfl) (fun hh => ?_) (fun hh => ?_) <;> (try simp (maxSteps := 1000000) (dsimp := false) (disch := omega) only [go_sem, simprocAttr, decide_eq_true_eq, decide_eq_false_iff_not, Bool.not_eq_true, Bool.not_eq_false, Bool.not_eq_true', Bool.not_eq_false', Int.not_lt, Int.not_le, bne_iff_ne, bne_eq_false_iff_eq, beq_iff_eq, beq_eq_false_iff_ne, ne_eq, Int.ofNat_inj, Int.natCast_inj] at hh) <;> (try (exfalso; omega))))
      refine evB_plain bo11 rfl rfl s2 hma ?_
      repeat' (first | refine wpB_seq ?_ | refine wpB_regionL rfl ?_ | refine wpB_block ?_ | refine wpB_skip ?_ | refine wpB_exit ?_ | refine wpB_ret ?_ | simp (maxSteps := 1000000) (dsimp := false) (disch := omega) only [go_sem, simprocAttr, *] | ((first | refine stepsB_both (fun hh => ?_) (fun hh => ?_) | refine stepsXB_both (fun hh => ?_) (fun hh => ?_)) <;> (try simp (maxSteps := 1000000) (dsimp := false) (disch := omega) only [go_sem, simprocAttr, decide_eq_true_eq, decide_eq_false_iff_not, Bool.not_eq_true, Bool.not_eq_false, Bool.not_eq_true', Bool.not_eq_false', Int.not_lt, Int.not_le, bne_iff_ne, bne_eq_false_iff_eq, beq_iff_eq, beq_eq_false_iff_ne, ne_eq, Int.ofNat_inj, Int.natCast_inj] at hh) <;> (try (exfalso; omega))) | (refine wpB_cond (by simp (maxSteps := 1000000) (dsimp := false) (disch := omega) only [go_sem, simprocAttr, *]; exact rfl) (fun hh => ?_) (fun hh => ?_) <;> (try simp (maxSteps := 1000000) (dsimp := false) (disch := omega) only [go_sem, simprocAttr, decide_eq_true_eq, decide_eq_false_iff_not, Bool.not_eq_true, Bool.not_eq_false, Bool.not_eq_true', Bool.not_eq_false', Int.not_lt, Int.not_le, bne_iff_ne, bne_eq_false_iff_eq, beq_iff_eq, beq_eq_false_iff_ne, ne_eq, Int.ofNat_inj, Int.natCast_inj] at hh) <;> (try (exfalso; omega))))
    · rw [if_neg hc] at hma
      replace hcr := hcr hc
      repeat' (first | refine wpB_seq ?_ | refine wpB_regionL rfl ?_ | refine wpB_block ?_ | refine wpB_skip ?_ | refine wpB_exit ?_ | refine wpB_ret ?_ | simp (maxSteps := 1000000) (dsimp := false) (disch := omega) only [go_sem, simprocAttr, *] | ((first | refine stepsB_both (fun hh => ?_) (fun hh => ?_) | refine stepsXB_both (fun hh => ?_) (fun hh => ?_)) <;> (try simp (maxSteps := 1000000) (dsimp := false) (disch := omega) only [go_sem, simprocAttr, decide_eq_true_eq, decide_eq_false_iff_not, Bool.not_eq_true, Bool.not_eq_false, Bool.not_eq_true', Bool.not_eq_false', Int.not_lt, Int.not_le, bne_iff_ne, bne_eq_false_iff_eq, beq_iff_eq, beq_eq_false_iff_ne, ne_eq, Int.ofNat_inj, Int.natCast_inj] at hh) <;> (try (exfalso; omega))) | (refine wpB_cond (by simp (maxSteps := 1000000) (dsimp := false) (disch := omega) only [go_sem, simprocAttr, *]; exact rfl) (fun hh => ?_) (fun hh => ?_) <;> (try simp (maxSteps := 1000000) (dsimp := false) (disch := omega) only [go_sem, simprocAttr, decide_eq_true_eq, decide_eq_false_iff_not, Bool.not_eq_true, Bool.not_eq_false, Bool.not_eq_true', Bool.not_eq_false', Int.not_lt, Int.not_le, bne_iff_ne, bne_eq_false_iff_eq, beq_iff_eq, beq_eq_false_iff_ne, ne_eq, Int.ofNat_inj, Int.natCast_inj] at hh) <;> (try (exfalso; omega))))
      refine evB_plain bo13 rfl rfl s3 hrl ?_
      repeat' (first | refine wpB_seq ?_ | refine wpB_regionL rfl ?_ | refine wpB_block ?_ | refine wpB_skip ?_ | refine wpB_exit ?_ | refine wpB_ret ?_ | simp (maxSteps := 1000000) (dsimp := false) (disch := omega) only [go_sem, simprocAttr, *, pairD] | ((first | refine stepsB_both (fun hh => ?_) (fun hh => ?_) | refine stepsXB_both (fun hh => ?_) (fun hh => ?_)) <;> (try simp (maxSteps := 1000000) (dsimp := false) (disch := omega) only [go_sem, simprocAttr, decide_eq_true_eq, decide_eq_false_iff_not, Bool.not_eq_true, Bool.not_eq_false, Bool.not_eq_true', Bool.not_eq_false', Int.not_lt, Int.not_le, bne_iff_ne, bne_eq_false_iff_eq, beq_iff_eq, beq_eq_false_iff_ne, ne_eq, Int.ofNat_inj, Int.natCast_inj] at hh) <;> (try (exfalso; omega))) | (refine wpB_cond (by simp (maxSteps := 1000000) (dsimp := false) (disch := omega) only [go_sem, simprocAttr, *, pairD]; exact rfl) (fun hh => ?_) (fun hh => ?_) <;> (try simp (maxSteps := 1000000) (dsimp := false) (disch := omega) only [go_sem, simprocAttr, decide_eq_true_eq, decide_eq_false_iff_not, Bool.not_eq_true, Bool.not_eq_false, Bool.not_eq_true', Bool.not_eq_false', Int.not_lt, Int.not_le, bne_iff_ne, bne_eq_false_iff_eq, beq_iff_eq, beq_eq_false_iff_ne, ne_eq, Int.ofNat_inj, Int.natCast_inj] at hh) <;> (try (exfalso; omega))))
      refine evB_plain bo9 rfl rfl s1 hdr ?_
      repeat' (first | refine wpB_seq ?_ | refine wpB_regionL rfl ?_ | refine wpB_block ?_ | refine wpB_skip ?_ | refine wpB_exit ?_ | refine wpB_ret ?_ | simp (maxSteps := 1000000) (dsimp := false) (disch := omega) only [go_sem, simprocAttr, *] | ((first | refine stepsB_both (fun hh => ?_) (fun hh => ?_) | refine stepsXB_both (fun hh => ?_) (fun hh => ?_)) <;> (try simp (maxSteps := 1000000) (dsimp := false) (disch := omega) only [go_sem, simprocAttr, decide_eq_true_eq, decide_eq_false_iff_not, Bool.not_eq_true, Bool.not_eq_false, Bool.not_eq_true', Bool.not_eq_false', Int.not_lt, Int.not_le, bne_iff_ne, bne_eq_false_iff_eq, beq_iff_eq, beq_eq_false_iff_ne, ne_eq, Int.ofNat_inj, Int.natCast_inj] at hh) <;> (try (exfalso; omega))) | (refine wpB_cond (by simp (maxSteps := 1000000) (dsimp := false) (disch := omega) only [go_sem, simprocAttr, *]; exact rfl) (fun hh => ?_) (fun hh => ?_) <;> (try simp (maxSteps := 1000000) (dsimp := false) (disch := omega) only [go_sem, simprocAttr, decide_eq_true_eq, decide_eq_false_iff_not, Bool.not_eq_true, Bool.not_eq_false, Bool.not_eq_true', Bool.not_eq_false', Int.not_lt, Int.not_le, bne_iff_ne, bne_eq_false_iff_eq, beq_iff_eq, beq_eq_false_iff_ne, ne_eq, Int.ofNat_inj, Int.natCast_inj] at hh) <;> (try (exfalso; omega))))
      refine evB_plain bo10 rfl rfl s2 hru ?_
      repeat' (first | refine wpB_seq ?_ | refine wpB_regionL rfl ?_ | refine wpB_block ?_ | refine wpB_skip ?_ | refine wpB_exit ?_ | refine wpB_ret ?_ | simp (maxSteps := 1000000) (dsimp := false) (disch := omega) only [go_sem, simprocAttr, *] | ((first | refine stepsB_both (fun hh => ?_) (fun hh => ?_) | refine stepsXB_both (fun hh => ?_) (fun hh => ?_)) <;> (try simp (maxSteps := 1000000) (dsimp := false) (disch := omega) only [go_sem, simprocAttr, decide_eq_true_eq, decide_eq_false_iff_not, Bool.not_eq_true, Bool.not_eq_false, Bool.not_eq_true', Bool.not_eq_false', Int.not_lt, Int.not_le, bne_iff_ne, bne_eq_false_iff_eq, beq_iff_eq, beq_eq_false_iff_ne, ne_eq, Int.ofNat_inj, Int.natCast_inj] at hh) <;> (try (exfalso; omega))) | (refine wpB_cond (by simp (maxSteps := 1000000) (dsimp := false) (disch := omega) only [go_sem, simprocAttr, *]; exact rfl) (fun hh => ?_) (fun hh => ?_) <;> (try simp (maxSteps := 1000000) (dsimp := false) (disch := omega) only [go_sem, simprocAttr, decide_eq_true_eq, decide_eq_false_iff_not, Bool.not_eq_true, Bool.not_eq_false, Bool.not_eq_true', Bool.not_eq_false', Int.not_lt, Int.not_le, bne_iff_ne, bne_eq_false_iff_eq, beq_iff_eq, beq_eq_false_iff_ne, ne_eq, Int.ofNat_inj, Int.natCast_inj] at hh) <;> (try (exfalso; omega))))
      refine evB_plain bo11 rfl rfl s2 hma ?_
      repeat' (first | refine wpB_seq ?_ | refine wpB_regionL rfl ?_ | refine wpB_block ?_ | refine wpB_skip ?_ | refine wpB_exit ?_ | refine wpB_ret ?_ | simp (maxSteps := 1000000) (dsimp := false) (disch := omega) only [go_sem, simprocAttr, *] | ((first | refine stepsB_both (fun hh => ?_) (fun hh => ?_) | refine stepsXB_both (fun hh => ?_) (fun hh => ?_)) <;> (try simp (maxSteps := 1000000) (dsimp := false) (disch := omega) only [go_sem, simprocAttr, decide_eq_true_eq, decide_eq_false_iff_not, Bool.not_eq_true, Bool.not_eq_false, Bool.not_eq_true', Bool.not_eq_false', Int.not_lt, Int.not_le, bne_iff_ne, bne_eq_false_iff_eq, beq_iff_eq, beq_eq_false_iff_ne, ne_eq, Int.ofNat_inj, Int.natCast_inj] at hh) <;> (try (exfalso; omega))) | (refine wpB_cond (by simp (maxSteps := 1000000) (dsimp := false) (disch := omega) only [go_sem, simprocAttr, *]; exact rfl) (fun hh => ?_) (fun hh => ?_) <;> (try simp (maxSteps := 1000000) (dsimp := false) (disch := omega) only [go_sem, simprocAttr, decide_eq_true_eq, decide_eq_false_iff_not, Bool.not_eq_true, Bool.not_eq_false, Bool.not_eq_true', Bool.not_eq_false', Int.not_lt, Int.not_le, bne_iff_ne, bne_eq_false_iff_eq, beq_iff_eq, beq_eq_false_iff_ne, ne_eq, Int.ofNat_inj, Int.natCast_inj] at hh) <;> (try (exfalso; omega))))
theorem run_take {d : Dfa} : ∀ {w : List Int} {a : Int} (k : Nat), 0 ≤ a → runD d a (w.take k) < 0 → runD d a w < 0
  | [], a, k, h0, h => by simpa using h
  | c :: w, a, 0, h0, h => by simp [runD] at h; omega
  | c :: w, a, k + 1, h0, h => by
    rw [List.take_succ_cons, runD] at h
    rw [runD]
    by_cases hc : nextD d a c < 0
    · rw [if_pos hc]; decide
    · rw [if_neg hc] at h ⊢
      exact run_take k (by omega) h
theorem lg_ge {d : Dfa} : ∀ {w : List Int} {a p : Int} {er : Int × Int}, er.1 ≤ p → er.1 ≤ (lgD d a p w er).1 ∧ (lgD d a p w er).1 ≤ p + w.length
  | [], a, p, er, h => by simp [lgD]; omega
  | c :: w, a, p, er, h => by
    rw [lgD]
    split
    · simp; omega
    · have := lg_ge (d := d) (w := w) (a := nextD d a c) (p := p + 1) (er := if 0 ≤ ruleAt d (nextD d a c) then (p + 1, ruleAt d (nextD d a c)) else er) (by split <;> (try simp) <;> omega)
      have h2 : er.1 ≤ (if 0 ≤ ruleAt d (nextD d a c) then (p + 1, ruleAt d (nextD d a c)) else er).1 := by split <;> (try simp) <;> omega
      simp only [List.length_cons]
      omega
theorem lg_take {d : Dfa} : ∀ {w : List Int} {a p : Int} {er : Int × Int} (k : Nat), er.1 ≤ p → (lgD d a p (w.take k) er).1 ≤ (lgD d a p w er).1
  | [], a, p, er, k, h => by simp
  | c :: w, a, p, er, 0, h => by rw [List.take_zero, show lgD d a p [] er = er from rfl]; exact (lg_ge h).1
  | c :: w, a, p, er, k + 1, h => by
    rw [List.take_succ_cons, lgD, lgD]
    split
    · exact Int.le_refl _
    · exact lg_take k (by split <;> (try simp) <;> omega)
theorem long0 {d : Dfa} (hr : rightD d = true) (w : List Int) : longD d w 0 = lgD d 0 0 w (-1, -1) := by
  unfold longD
  rw [if_pos ⟨hr, by omega, by omega⟩]
  simp
theorem long_le (d : Dfa) (w : List Int) (k : Nat) (hk : k ≤ w.length) : (longD d (w.take k) 0).1 ≤ (longD d w 0).1 ∧ (longD d (w.take k) 0).1 ≤ k := by
  cases hr : rightD d with
  | false => simp only [longD, hr]; simp <;> omega
  | true =>
    rw [long0 hr, long0 hr]
    refine ⟨lg_take k (by simp), ?_⟩
    have := (lg_ge (d := d) (w := w.take k) (a := 0) (p := 0) (er := (-1, -1)) (by simp)).2
    rw [List.length_take] at this
    omega
theorem prefix_law (d : Dfa) (w : List Int) (n : Int) (ht : tyM d) (hn0 : 0 ≤ n) (hn1 : n < 256) (hrl : d.rule.length ≤ 9223372036854775807) : Yes 5 [dfaD d, isD w, .int .u8 n] := by
  have a1 := dfa_noTup d
  have a2 := dfa_cells d
  have a3 := dfa_aggQ d
  have ew : isD w = .sl false (w.map (.int .i64)) := rfl
  refine evF_inB (n := 65) (rs := [.tmp 6]) Tryd.func5 rfl rfl rfl rfl rfl rfl ?_
  repeat' (first | refine wpB_seq ?_ | refine wpB_regionL rfl ?_ | refine wpB_block ?_ | refine wpB_skip ?_ | refine wpB_exit ?_ | refine wpB_ret ?_ | simp (maxSteps := 1000000) (dsimp := false) (disch := omega) only [go_sem, simprocAttr, *] | ((first | refine stepsB_both (fun hh => ?_) (fun hh => ?_) | refine stepsXB_both (fun hh => ?_) (fun hh => ?_)) <;> (try simp (maxSteps := 1000000) (dsimp := false) (disch := omega) only [go_sem, simprocAttr, decide_eq_true_eq, decide_eq_false_iff_not, Bool.not_eq_true, Bool.not_eq_false, Bool.not_eq_true', Bool.not_eq_false', Int.not_lt, Int.not_le, bne_iff_ne, bne_eq_false_iff_eq, beq_iff_eq, beq_eq_false_iff_ne, ne_eq, Int.ofNat_inj, Int.natCast_inj] at hh) <;> (try (exfalso; omega))) | (refine wpB_cond (by simp (maxSteps := 1000000) (dsimp := false) (disch := omega) only [go_sem, simprocAttr, *]; exact rfl) (fun hh => ?_) (fun hh => ?_) <;> (try simp (maxSteps := 1000000) (dsimp := false) (disch := omega) only [go_sem, simprocAttr, decide_eq_true_eq, decide_eq_false_iff_not, Bool.not_eq_true, Bool.not_eq_false, Bool.not_eq_true', Bool.not_eq_false', Int.not_lt, Int.not_le, bne_iff_ne, bne_eq_false_iff_eq, beq_iff_eq, beq_eq_false_iff_ne, ne_eq, Int.ofNat_inj, Int.natCast_inj] at hh) <;> (try (exfalso; omega))))
  refine evB_plain bo6 rfl rfl rfl alive_ok ?_
  obtain ⟨k, rfl⟩ : ∃ k : Nat, n = k := ⟨n.toNat, by omega⟩
  by_cases hg : d.next.length ≤ 300 ∧ w.length ≤ 60
  case neg =>
    by_cases h1 : d.next.length ≤ 300
    · have h2 : ¬ w.length ≤ 60 := fun h => hg ⟨h1, h⟩
      clear hg
      repeat' (first | refine wpB_seq ?_ | refine wpB_regionL rfl ?_ | refine wpB_block ?_ | refine wpB_skip ?_ | refine wpB_exit ?_ | refine wpB_ret ?_ | simp (maxSteps := 1000000) (dsimp := false) (disch := omega) only [go_sem, simprocAttr, *] | ((first | refine stepsB_both (fun hh => ?_) (fun hh => ?_) | refine stepsXB_both (fun hh => ?_) (fun hh => ?_)) <;> (try simp (maxSteps := 1000000) (dsimp := false) (disch := omega) only [go_sem, simprocAttr, decide_eq_true_eq, decide_eq_false_iff_not, Bool.not_eq_true, Bool.not_eq_false, Bool.not_eq_true', Bool.not_eq_false', Int.not_lt, Int.not_le, bne_iff_ne, bne_eq_false_iff_eq, beq_iff_eq, beq_eq_false_iff_ne, ne_eq, Int.ofNat_inj, Int.natCast_inj] at hh) <;> (try (exfalso; omega))) | (refine wpB_cond (by simp (maxSteps := 1000000) (dsimp := false) (disch := omega) only [go_sem, simprocAttr, *]; exact rfl) (fun hh => ?_) (fun hh => ?_) <;> (try simp (maxSteps := 1000000) (dsimp := false) (disch := omega) only [go_sem, simprocAttr, decide_eq_true_eq, decide_eq_false_iff_not, Bool.not_eq_true, Bool.not_eq_false, Bool.not_eq_true', Bool.not_eq_false', Int.not_lt, Int.not_le, bne_iff_ne, bne_eq_false_iff_eq, beq_iff_eq, beq_eq_false_iff_ne, ne_eq, Int.ofNat_inj, Int.natCast_inj] at hh) <;> (try (exfalso; omega))))
    · clear hg
      repeat' (first | refine wpB_seq ?_ | refine wpB_regionL rfl ?_ | refine wpB_block ?_ | refine wpB_skip ?_ | refine wpB_exit ?_ | refine wpB_ret ?_ | simp (maxSteps := 1000000) (dsimp := false) (disch := omega) only [go_sem, simprocAttr, *] | ((first | refine stepsB_both (fun hh => ?_) (fun hh => ?_) | refine stepsXB_both (fun hh => ?_) (fun hh => ?_)) <;> (try simp (maxSteps := 1000000) (dsimp := false) (disch := omega) only [go_sem, simprocAttr, decide_eq_true_eq, decide_eq_false_iff_not, Bool.not_eq_true, Bool.not_eq_false, Bool.not_eq_true', Bool.not_eq_false', Int.not_lt, Int.not_le, bne_iff_ne, bne_eq_false_iff_eq, beq_iff_eq, beq_eq_false_iff_ne, ne_eq, Int.ofNat_inj, Int.natCast_inj] at hh) <;> (try (exfalso; omega))) | (refine wpB_cond (by simp (maxSteps := 1000000) (dsimp := false) (disch := omega) only [go_sem, simprocAttr, *]; exact rfl) (fun hh => ?_) (fun hh => ?_) <;> (try simp (maxSteps := 1000000) (dsimp := false) (disch := omega) only [go_sem, simprocAttr, decide_eq_true_eq, decide_eq_false_iff_not, Bool.not_eq_true, Bool.not_eq_false, Bool.not_eq_true', Bool.not_eq_false', Int.not_lt, Int.not_le, bne_iff_ne, bne_eq_false_iff_eq, beq_iff_eq, beq_eq_false_iff_ne, ne_eq, Int.ofNat_inj, Int.natCast_inj] at hh) <;> (try (exfalso; omega))))
  obtain ⟨g1, g2⟩ := hg
  have hdr2 := drun_ok d w ht (by omega) hrl (by omega)
  have hlo2 := dlong_ok d w 0 ht (by omega) hrl (by omega)
  have s2 := stripDw d w
  have s3 := stripDwi d w 0
  have body : ∀ k : Nat, k ≤ w.length → (∃ x y, PureF Tryd.prog A 10 [dfaD d, isD (w.take k)] (.int .i64 x) ∧ PureF Tryd.prog A 10 [dfaD d, isD w] (.int .i64 y) ∧ (x < 0 → y < 0)) ∧ ∃ p q, PureF Tryd.prog A 7 [dfaD d, isD (w.take k), .int .i64 0] (pairD p) ∧ PureF Tryd.prog A 7 [dfaD d, isD w, .int .i64 0] (pairD q) ∧ p.1 ≤ q.1 ∧ p.1 ≤ k := fun k hk => by
    have hl : (w.take k).length ≤ 1000000 := by rw [List.length_take]; omega
    refine ⟨⟨_, _, drun_ok d (w.take k) ht (by omega) hrl hl, hdr2, ?_⟩, _, _, dlong_ok d (w.take k) 0 ht (by omega) hrl hl, hlo2, (long_le d w k hk).1, (long_le d w k hk).2⟩
    split
    · exact run_take k (by omega)
    · exact id
  clear hdr2 hlo2
  have hsl : ∀ k : Nat, stripL [dfaD d, isD (w.take k)] = some [dfaD d, isD (w.take k)] := fun k => stripDw d (w.take k)
  have hsl3 : ∀ k : Nat, stripL [dfaD d, isD (w.take k), .int .i64 0] = some [dfaD d, isD (w.take k), .int .i64 0] := fun k => stripDwi d (w.take k) 0
  have hhd := headInts w
  by_cases hk : k ≤ w.length
  · obtain ⟨⟨x, y, b1, b2, b3⟩, p, q, b4, b5, b6, b7⟩ := body k hk
    clear body
    have q1 := hsl k
    have q3 := hsl3 k
    obtain ⟨p1, p2⟩ := p
    obtain ⟨r1, r2⟩ := q
    replace b6 : p1 ≤ r1 := b6
    replace b7 : p1 ≤ k := b7
    have et : isD (w.take k) = .sl false (List.take k (w.map (.int .i64))) := by rw [← List.map_take]; rfl
    rw [et] at b1 b4 q1 q3
    clear hsl hsl3 et
    by_cases hx : x < 0
    · have hy := b3 hx
      repeat' (first | refine wpB_seq ?_ | refine wpB_regionL rfl ?_ | refine wpB_block ?_ | refine wpB_skip ?_ | refine wpB_exit ?_ | refine wpB_ret ?_ | simp (maxSteps := 1000000) (dsimp := false) (disch := omega) only [go_sem, simprocAttr, *] | ((first | refine stepsB_both (fun hh => ?_) (fun hh => ?_) | refine stepsXB_both (fun hh => ?_) (fun hh => ?_)) <;> (try simp (maxSteps := 1000000) (dsimp := false) (disch := omega) only [go_sem, simprocAttr, decide_eq_true_eq, decide_eq_false_iff_not, Bool.not_eq_true, Bool.not_eq_false, Bool.not_eq_true', Bool.not_eq_false', Int.not_lt, Int.not_le, bne_iff_ne, bne_eq_false_iff_eq, beq_iff_eq, beq_eq_false_iff_ne, ne_eq, Int.ofNat_inj, Int.natCast_inj] at hh) <;> (try (exfalso; omega))) | (refine wpB_cond (by simp (maxSteps := 1000000) (dsimp := false) (disch := omega) only [go_sem, simprocAttr, *]; exact rfl) (fun hh => ?_) (fun hh => ?_) <;> (try simp (maxSteps := 1000000) (dsimp := false) (disch := omega) only [go_sem, simprocAttr, decide_eq_true_eq, decide_eq_false_iff_not, Bool.not_eq_true, Bool.not_eq_false, Bool.not_eq_true', Bool.not_eq_false', Int.not_lt, Int.not_le, bne_iff_ne, bne_eq_false_iff_eq, beq_iff_eq, beq_eq_false_iff_ne, ne_eq, Int.ofNat_inj, Int.natCast_inj] at hh) <;> (try (exfalso; omega))))
      refine wpB_regionXL (prs := []) (by kernel_rfl) rfl (by kernel_rfl) ?_; simp (maxSteps := 1000000) (dsimp := false) (disch := omega) only [go_sem, simprocAttr, *]
      refine ⟨fun _ => rfl, evB_plain bo10 rfl rfl q1 b1 ?_⟩
      simp (maxSteps := 1000000) (dsimp := false) (disch := omega) only [go_sem, simprocAttr, *]
      refine ⟨fun _ => by rw [show D.sl false (w.map (.int .i64)) = isD w from rfl, s2]; rfl, evB_plain bo10 rfl rfl s2 b2 ?_⟩
      repeat' (first | refine wpB_seq ?_ | refine wpB_regionL rfl ?_ | refine wpB_block ?_ | refine wpB_skip ?_ | refine wpB_exit ?_ | refine wpB_ret ?_ | simp (maxSteps := 1000000) (dsimp := false) (disch := omega) only [go_sem, simprocAttr, *] | ((first | refine stepsB_both (fun hh => ?_) (fun hh => ?_) | refine stepsXB_both (fun hh => ?_) (fun hh => ?_)) <;> (try simp (maxSteps := 1000000) (dsimp := false) (disch := omega) only [go_sem, simprocAttr, decide_eq_true_eq, decide_eq_false_iff_not, Bool.not_eq_true, Bool.not_eq_false, Bool.not_eq_true', Bool.not_eq_false', Int.not_lt, Int.not_le, bne_iff_ne, bne_eq_false_iff_eq, beq_iff_eq, beq_eq_false_iff_ne, ne_eq, Int.ofNat_inj, Int.natCast_inj] at hh) <;> (try (exfalso; omega))) | (refine wpB_cond (by simp (maxSteps := 1000000) (dsimp := false) (disch := omega) only [go_sem, simprocAttr, *]; exact rfl) (fun hh => ?_) (fun hh => ?_) <;> (try simp (maxSteps := 1000000) (dsimp := false) (disch := omega) only [go_sem, simprocAttr, decide_eq_true_eq, decide_eq_false_iff_not, Bool.not_eq_true, Bool.not_eq_false, Bool.not_eq_true', Bool.not_eq_false', Int.not_lt, Int.not_le, bne_iff_ne, bne_eq_false_iff_eq, beq_iff_eq, beq_eq_false_iff_ne, ne_eq, Int.ofNat_inj, Int.natCast_inj] at hh) <;> (try (exfalso; omega))))
      refine wpB_regionXL (prs := []) (by kernel_rfl) rfl (by kernel_rfl) ?_; simp (maxSteps := 1000000) (dsimp := false) (disch := omega) only [go_sem, simprocAttr, *]
      refine ⟨fun _ => rfl, evB_plain bo7 rfl rfl q3 b4 ?_⟩
      repeat' (first | refine wpB_seq ?_ | refine wpB_regionL rfl ?_ | refine wpB_block ?_ | refine wpB_skip ?_ | refine wpB_exit ?_ | refine wpB_ret ?_ | simp (maxSteps := 1000000) (dsimp := false) (disch := omega) only [go_sem, simprocAttr, *, pairD] | ((first | refine stepsB_both (fun hh => ?_) (fun hh => ?_) | refine stepsXB_both (fun hh => ?_) (fun hh => ?_)) <;> (try simp (maxSteps := 1000000) (dsimp := false) (disch := omega) only [go_sem, simprocAttr, decide_eq_true_eq, decide_eq_false_iff_not, Bool.not_eq_true, Bool.not_eq_false, Bool.not_eq_true', Bool.not_eq_false', Int.not_lt, Int.not_le, bne_iff_ne, bne_eq_false_iff_eq, beq_iff_eq, beq_eq_false_iff_ne, ne_eq, Int.ofNat_inj, Int.natCast_inj] at hh) <;> (try (exfalso; omega))) | (refine wpB_cond (by simp (maxSteps := 1000000) (dsimp := false) (disch := omega) only [go_sem, simprocAttr, *, pairD]; exact rfl) (fun hh => ?_) (fun hh => ?_) <;> (try simp (maxSteps := 1000000) (dsimp := false) (disch := omega) only [go_sem, simprocAttr, decide_eq_true_eq, decide_eq_false_iff_not, Bool.not_eq_true, Bool.not_eq_false, Bool.not_eq_true', Bool.not_eq_false', Int.not_lt, Int.not_le, bne_iff_ne, bne_eq_false_iff_eq, beq_iff_eq, beq_eq_false_iff_ne, ne_eq, Int.ofNat_inj, Int.natCast_inj] at hh) <;> (try (exfalso; omega))))
      refine evB_plain bo7 rfl rfl s3 b5 ?_
      repeat' (first | refine wpB_seq ?_ | refine wpB_regionL rfl ?_ | refine wpB_block ?_ | refine wpB_skip ?_ | refine wpB_exit ?_ | refine wpB_ret ?_ | simp (maxSteps := 1000000) (dsimp := false) (disch := omega) only [go_sem, simprocAttr, *, pairD] | ((first | refine stepsB_both (fun hh => ?_) (fun hh => ?_) | refine stepsXB_both (fun hh => ?_) (fun hh => ?_)) <;> (try simp (maxSteps := 1000000) (dsimp := false) (disch := omega) only [go_sem, simprocAttr, decide_eq_true_eq, decide_eq_false_iff_not, Bool.not_eq_true, Bool.not_eq_false, Bool.not_eq_true', Bool.not_eq_false', Int.not_lt, Int.not_le, bne_iff_ne, bne_eq_false_iff_eq, beq_iff_eq, beq_eq_false_iff_ne, ne_eq, Int.ofNat_inj, Int.natCast_inj] at hh) <;> (try (exfalso; omega))) | (refine wpB_cond (by simp (maxSteps := 1000000) (dsimp := false) (disch := omega) only [go_sem, simprocAttr, *, pairD]; exact rfl) (fun hh => ?_) (fun hh => ?_) <;> (try simp (maxSteps := 1000000) (dsimp := false) (disch := omega) only [go_sem, simprocAttr, decide_eq_true_eq, decide_eq_false_iff_not, Bool.not_eq_true, Bool.not_eq_false, Bool.not_eq_true', Bool.not_eq_false', Int.not_lt, Int.not_le, bne_iff_ne, bne_eq_false_iff_eq, beq_iff_eq, beq_eq_false_iff_ne, ne_eq, Int.ofNat_inj, Int.natCast_inj] at hh) <;> (try (exfalso; omega))))
    · repeat' (first | refine wpB_seq ?_ | refine wpB_regionL rfl ?_ | refine wpB_block ?_ | refine wpB_skip ?_ | refine wpB_exit ?_ | refine wpB_ret ?_ | simp (maxSteps := 1000000) (dsimp := false) (disch := omega) only [go_sem, simprocAttr, *] | ((first | refine stepsB_both (fun hh => ?_) (fun hh => ?_) | refine stepsXB_both (fun hh => ?_) (fun hh => ?_)) <;> (try simp (maxSteps := 1000000) (dsimp := false) (disch := omega) only [go_sem, simprocAttr, decide_eq_true_eq, decide_eq_false_iff_not, Bool.not_eq_true, Bool.not_eq_false, Bool.not_eq_true', Bool.not_eq_false', Int.not_lt, Int.not_le, bne_iff_ne, bne_eq_false_iff_eq, beq_iff_eq, beq_eq_false_iff_ne, ne_eq, Int.ofNat_inj, Int.natCast_inj] at hh) <;> (try (exfalso; omega))) | (refine wpB_cond (by simp (maxSteps := 1000000) (dsimp := false) (disch := omega) only [go_sem, simprocAttr, *]; exact rfl) (fun hh => ?_) (fun hh => ?_) <;> (try simp (maxSteps := 1000000) (dsimp := false) (disch := omega) only [go_sem, simprocAttr, decide_eq_true_eq, decide_eq_false_iff_not, Bool.not_eq_true, Bool.not_eq_false, Bool.not_eq_true', Bool.not_eq_false', Int.not_lt, Int.not_le, bne_iff_ne, bne_eq_false_iff_eq, beq_iff_eq, beq_eq_false_iff_ne, ne_eq, Int.ofNat_inj, Int.natCast_inj] at hh) <;> (try (exfalso; omega))))
      refine wpB_regionXL (prs := []) (by kernel_rfl) rfl (by kernel_rfl) ?_; simp (maxSteps := 1000000) (dsimp := false) (disch := omega) only [go_sem, simprocAttr, *]
      refine ⟨fun _ => rfl, evB_plain bo10 rfl rfl q1 b1 ?_⟩
      repeat' (first | refine wpB_seq ?_ | refine wpB_regionL rfl ?_ | refine wpB_block ?_ | refine wpB_skip ?_ | refine wpB_exit ?_ | refine wpB_ret ?_ | simp (maxSteps := 1000000) (dsimp := false) (disch := omega) only [go_sem, simprocAttr, *] | ((first | refine stepsB_both (fun hh => ?_) (fun hh => ?_) | refine stepsXB_both (fun hh => ?_) (fun hh => ?_)) <;> (try simp (maxSteps := 1000000) (dsimp := false) (disch := omega) only [go_sem, simprocAttr, decide_eq_true_eq, decide_eq_false_iff_not, Bool.not_eq_true, Bool.not_eq_false, Bool.not_eq_true', Bool.not_eq_false', Int.not_lt, Int.not_le, bne_iff_ne, bne_eq_false_iff_eq, beq_iff_eq, beq_eq_false_iff_ne, ne_eq, Int.ofNat_inj, Int.natCast_inj] at hh) <;> (try (exfalso; omega))) | (refine wpB_cond (by simp (maxSteps := 1000000) (dsimp := false) (disch := omega) only [go_sem, simprocAttr, *]; exact rfl) (fun hh => ?_) (fun hh => ?_) <;> (try simp (maxSteps := 1000000) (dsimp := false) (disch := omega) only [go_sem, simprocAttr, decide_eq_true_eq, decide_eq_false_iff_not, Bool.not_eq_true, Bool.not_eq_false, Bool.not_eq_true', Bool.not_eq_false', Int.not_lt, Int.not_le, bne_iff_ne, bne_eq_false_iff_eq, beq_iff_eq, beq_eq_false_iff_ne, ne_eq, Int.ofNat_inj, Int.natCast_inj] at hh) <;> (try (exfalso; omega))))
      refine wpB_regionXL (prs := []) (by kernel_rfl) rfl (by kernel_rfl) ?_; simp (maxSteps := 1000000) (dsimp := false) (disch := omega) only [go_sem, simprocAttr, *]
      refine ⟨fun _ => rfl, evB_plain bo7 rfl rfl q3 b4 ?_⟩
      repeat' (first | refine wpB_seq ?_ | refine wpB_regionL rfl ?_ | refine wpB_block ?_ | refine wpB_skip ?_ | refine wpB_exit ?_ | refine wpB_ret ?_ | simp (maxSteps := 1000000) (dsimp := false) (disch := omega) only [go_sem, simprocAttr, *, pairD] | ((first | refine stepsB_both (fun hh => ?_) (fun hh => ?_) | refine stepsXB_both (fun hh => ?_) (fun hh => ?_)) <;> (try simp (maxSteps := 1000000) (dsimp := false) (disch := omega) only [go_sem, simprocAttr, decide_eq_true_eq, decide_eq_false_iff_not, Bool.not_eq_true, Bool.not_eq_false, Bool.not_eq_true', Bool.not_eq_false', Int.not_lt, Int.not_le, bne_iff_ne, bne_eq_false_iff_eq, beq_iff_eq, beq_eq_false_iff_ne, ne_eq, Int.ofNat_inj, Int.natCast_inj] at hh) <;> (try (exfalso; omega))) | (refine wpB_cond (by simp (maxSteps := 1000000) (dsimp := false) (disch := omega) only [go_sem, simprocAttr, *, pairD]; exact rfl) (fun hh => ?_) (fun hh => ?_) <;> (try simp (maxSteps := 1000000) (dsimp := false) (disch := omega) only [go_sem, simprocAttr, decide_eq_true_eq, decide_eq_false_iff_not, Bool.not_eq_true, Bool.not_eq_false, Bool.not_eq_true', Bool.not_eq_false', Int.not_lt, Int.not_le, bne_iff_ne, bne_eq_false_iff_eq, beq_iff_eq, beq_eq_false_iff_ne, ne_eq, Int.ofNat_inj, Int.natCast_inj] at hh) <;> (try (exfalso; omega))))
      refine evB_plain bo7 rfl rfl s3 b5 ?_
      repeat' (first | refine wpB_seq ?_ | refine wpB_regionL rfl ?_ | refine wpB_block ?_ | refine wpB_skip ?_ | refine wpB_exit ?_ | refine wpB_ret ?_ | simp (maxSteps := 1000000) (dsimp := false) (disch := omega) only [go_sem, simprocAttr, *, pairD] | ((first | refine stepsB_both (fun hh => ?_) (fun hh => ?_) | refine stepsXB_both (fun hh => ?_) (fun hh => ?_)) <;> (try simp (maxSteps := 1000000) (dsimp := false) (disch := omega) only [go_sem, simprocAttr, decide_eq_true_eq, decide_eq_false_iff_not, Bool.not_eq_true, Bool.not_eq_false, Bool.not_eq_true', Bool.not_eq_false', Int.not_lt, Int.not_le, bne_iff_ne, bne_eq_false_iff_eq, beq_iff_eq, beq_eq_false_iff_ne, ne_eq, Int.ofNat_inj, Int.natCast_inj] at hh) <;> (try (exfalso; omega))) | (refine wpB_cond (by simp (maxSteps := 1000000) (dsimp := false) (disch := omega) only [go_sem, simprocAttr, *, pairD]; exact rfl) (fun hh => ?_) (fun hh => ?_) <;> (try simp (maxSteps := 1000000) (dsimp := false) (disch := omega) only [go_sem, simprocAttr, decide_eq_true_eq, decide_eq_false_iff_not, Bool.not_eq_true, Bool.not_eq_false, Bool.not_eq_true', Bool.not_eq_false', Int.not_lt, Int.not_le, bne_iff_ne, bne_eq_false_iff_eq, beq_iff_eq, beq_eq_false_iff_ne, ne_eq, Int.ofNat_inj, Int.natCast_inj] at hh) <;> (try (exfalso; omega))))
  · obtain ⟨⟨x, y, b1, b2, b3⟩, p, q, b4, b5, b6, b7⟩ := body w.length (Nat.le_refl _)
    clear body
    have q1 := hsl w.length
    have q3 := hsl3 w.length
    obtain ⟨p1, p2⟩ := p
    obtain ⟨r1, r2⟩ := q
    replace b6 : p1 ≤ r1 := b6
    replace b7 : p1 ≤ w.length := b7
    have et : isD (w.take w.length) = .sl false (List.take w.length (w.map (.int .i64))) := by rw [← List.map_take]; rfl
    rw [et] at b1 b4 q1 q3
    clear hsl hsl3 et
    by_cases hx : x < 0
    · have hy := b3 hx
      repeat' (first | refine wpB_seq ?_ | refine wpB_regionL rfl ?_ | refine wpB_block ?_ | refine wpB_skip ?_ | refine wpB_exit ?_ | refine wpB_ret ?_ | simp (maxSteps := 1000000) (dsimp := false) (disch := omega) only [go_sem, simprocAttr, *] | ((first | refine stepsB_both (fun hh => ?_) (fun hh => ?_) | refine stepsXB_both (fun hh => ?_) (fun hh => ?_)) <;> (try simp (maxSteps := 1000000) (dsimp := false) (disch := omega) only [go_sem, simprocAttr, decide_eq_true_eq, decide_eq_false_iff_not, Bool.not_eq_true, Bool.not_eq_false, Bool.not_eq_true', Bool.not_eq_false', Int.not_lt, Int.not_le, bne_iff_ne, bne_eq_false_iff_eq, beq_iff_eq, beq_eq_false_iff_ne, ne_eq, Int.ofNat_inj, Int.natCast_inj] at hh) <;> (try (exfalso; omega))) | (refine wpB_cond (by simp (maxSteps := 1000000) (dsimp := false) (disch := omega) only [go_sem, simprocAttr, *]; exact rfl) (fun hh => ?_) (fun hh => ?_) <;> (try simp (maxSteps := 1000000) (dsimp := false) (disch := omega) only [go_sem, simprocAttr, decide_eq_true_eq, decide_eq_false_iff_not, Bool.not_eq_true, Bool.not_eq_false, Bool.not_eq_true', Bool.not_eq_false', Int.not_lt, Int.not_le, bne_iff_ne, bne_eq_false_iff_eq, beq_iff_eq, beq_eq_false_iff_ne, ne_eq, Int.ofNat_inj, Int.natCast_inj] at hh) <;> (try (exfalso; omega))))
      refine wpB_regionXL (prs := []) (by kernel_rfl) rfl (by kernel_rfl) ?_; simp (maxSteps := 1000000) (dsimp := false) (disch := omega) only [go_sem, simprocAttr, *]
      refine ⟨fun _ => rfl, evB_plain bo10 rfl rfl q1 b1 ?_⟩
      simp (maxSteps := 1000000) (dsimp := false) (disch := omega) only [go_sem, simprocAttr, *]
      refine ⟨fun _ => by rw [show D.sl false (w.map (.int .i64)) = isD w from rfl, s2]; rfl, evB_plain bo10 rfl rfl s2 b2 ?_⟩
      repeat' (first | refine wpB_seq ?_ | refine wpB_regionL rfl ?_ | refine wpB_block ?_ | refine wpB_skip ?_ | refine wpB_exit ?_ | refine wpB_ret ?_ | simp (maxSteps := 1000000) (dsimp := false) (disch := omega) only [go_sem, simprocAttr, *] | ((first | refine stepsB_both (fun hh => ?_) (fun hh => ?_) | refine stepsXB_both (fun hh => ?_) (fun hh => ?_)) <;> (try simp (maxSteps := 1000000) (dsimp := false) (disch := omega) only [go_sem, simprocAttr, decide_eq_true_eq, decide_eq_false_iff_not, Bool.not_eq_true, Bool.not_eq_false, Bool.not_eq_true', Bool.not_eq_false', Int.not_lt, Int.not_le, bne_iff_ne, bne_eq_false_iff_eq, beq_iff_eq, beq_eq_false_iff_ne, ne_eq, Int.ofNat_inj, Int.natCast_inj] at hh) <;> (try (exfalso; omega))) | (refine wpB_cond (by simp (maxSteps := 1000000) (dsimp := false) (disch := omega) only [go_sem, simprocAttr, *]; exact rfl) (fun hh => ?_) (fun hh => ?_) <;> (try simp (maxSteps := 1000000) (dsimp := false) (disch := omega) only [go_sem, simprocAttr, decide_eq_true_eq, decide_eq_false_iff_not, Bool.not_eq_true, Bool.not_eq_false, Bool.not_eq_true', Bool.not_eq_false', Int.not_lt, Int.not_le, bne_iff_ne, bne_eq_false_iff_eq, beq_iff_eq, beq_eq_false_iff_ne, ne_eq, Int.ofNat_inj, Int.natCast_inj] at hh) <;> (try (exfalso; omega))))
      refine wpB_regionXL (prs := []) (by kernel_rfl) rfl (by kernel_rfl) ?_; simp (maxSteps := 1000000) (dsimp := false) (disch := omega) only [go_sem, simprocAttr, *]
      refine ⟨fun _ => rfl, evB_plain bo7 rfl rfl q3 b4 ?_⟩
      repeat' (first | refine wpB_seq ?_ | refine wpB_regionL rfl ?_ | refine wpB_block ?_ | refine wpB_skip ?_ | refine wpB_exit ?_ | refine wpB_ret ?_ | simp (maxSteps := 1000000) (dsimp := false) (disch := omega) only [go_sem, simprocAttr, *, pairD] | ((first | refine stepsB_both (fun hh => ?_) (fun hh => ?_) | refine stepsXB_both (fun hh => ?_) (fun hh => ?_)) <;> (try simp (maxSteps := 1000000) (dsimp := false) (disch := omega) only [go_sem, simprocAttr, decide_eq_true_eq, decide_eq_false_iff_not, Bool.not_eq_true, Bool.not_eq_false, Bool.not_eq_true', Bool.not_eq_false', Int.not_lt, Int.not_le, bne_iff_ne, bne_eq_false_iff_eq, beq_iff_eq, beq_eq_false_iff_ne, ne_eq, Int.ofNat_inj, Int.natCast_inj] at hh) <;> (try (exfalso; omega))) | (refine wpB_cond (by simp (maxSteps := 1000000) (dsimp := false) (disch := omega) only [go_sem, simprocAttr, *, pairD]; exact rfl) (fun hh => ?_) (fun hh => ?_) <;> (try simp (maxSteps := 1000000) (dsimp := false) (disch := omega) only [go_sem, simprocAttr, decide_eq_true_eq, decide_eq_false_iff_not, Bool.not_eq_true, Bool.not_eq_false, Bool.not_eq_true', Bool.not_eq_false', Int.not_lt, Int.not_le, bne_iff_ne, bne_eq_false_iff_eq, beq_iff_eq, beq_eq_false_iff_ne, ne_eq, Int.ofNat_inj, Int.natCast_inj] at hh) <;> (try (exfalso; omega))))
      refine evB_plain bo7 rfl rfl s3 b5 ?_
      repeat' (first | refine wpB_seq ?_ | refine wpB_regionL rfl ?_ | refine wpB_block ?_ | refine wpB_skip ?_ | refine wpB_exit ?_ | refine wpB_ret ?_ | simp (maxSteps := 1000000) (dsimp := false) (disch := omega) only [go_sem, simprocAttr, *, pairD] | ((first | refine stepsB_both (fun hh => ?_) (fun hh => ?_) | refine stepsXB_both (fun hh => ?_) (fun hh => ?_)) <;> (try simp (maxSteps := 1000000) (dsimp := false) (disch := omega) only [go_sem, simprocAttr, decide_eq_true_eq, decide_eq_false_iff_not, Bool.not_eq_true, Bool.not_eq_false, Bool.not_eq_true', Bool.not_eq_false', Int.not_lt, Int.not_le, bne_iff_ne, bne_eq_false_iff_eq, beq_iff_eq, beq_eq_false_iff_ne, ne_eq, Int.ofNat_inj, Int.natCast_inj] at hh) <;> (try (exfalso; omega))) | (refine wpB_cond (by simp (maxSteps := 1000000) (dsimp := false) (disch := omega) only [go_sem, simprocAttr, *, pairD]; exact rfl) (fun hh => ?_) (fun hh => ?_) <;> (try simp (maxSteps := 1000000) (dsimp := false) (disch := omega) only [go_sem, simprocAttr, decide_eq_true_eq, decide_eq_false_iff_not, Bool.not_eq_true, Bool.not_eq_false, Bool.not_eq_true', Bool.not_eq_false', Int.not_lt, Int.not_le, bne_iff_ne, bne_eq_false_iff_eq, beq_iff_eq, beq_eq_false_iff_ne, ne_eq, Int.ofNat_inj, Int.natCast_inj] at hh) <;> (try (exfalso; omega))))
    · repeat' (first | refine wpB_seq ?_ | refine wpB_regionL rfl ?_ | refine wpB_block ?_ | refine wpB_skip ?_ | refine wpB_exit ?_ | refine wpB_ret ?_ | simp (maxSteps := 1000000) (dsimp := false) (disch := omega) only [go_sem, simprocAttr, *] | ((first | refine stepsB_both (fun hh => ?_) (fun hh => ?_) | refine stepsXB_both (fun hh => ?_) (fun hh => ?_)) <;> (try simp (maxSteps := 1000000) (dsimp := false) (disch := omega) only [go_sem, simprocAttr, decide_eq_true_eq, decide_eq_false_iff_not, Bool.not_eq_true, Bool.not_eq_false, Bool.not_eq_true', Bool.not_eq_false', Int.not_lt, Int.not_le, bne_iff_ne, bne_eq_false_iff_eq, beq_iff_eq, beq_eq_false_iff_ne, ne_eq, Int.ofNat_inj, Int.natCast_inj] at hh) <;> (try (exfalso; omega))) | (refine wpB_cond (by simp (maxSteps := 1000000) (dsimp := false) (disch := omega) only [go_sem, simprocAttr, *]; exact rfl) (fun hh => ?_) (fun hh => ?_) <;> (try simp (maxSteps := 1000000) (dsimp := false) (disch := omega) only [go_sem, simprocAttr, decide_eq_true_eq, decide_eq_false_iff_not, Bool.not_eq_true, Bool.not_eq_false, Bool.not_eq_true', Bool.not_eq_false', Int.not_lt, Int.not_le, bne_iff_ne, bne_eq_false_iff_eq, beq_iff_eq, beq_eq_false_iff_ne, ne_eq, Int.ofNat_inj, Int.natCast_inj] at hh) <;> (try (exfalso; omega))))
      refine wpB_regionXL (prs := []) (by kernel_rfl) rfl (by kernel_rfl) ?_; simp (maxSteps := 1000000) (dsimp := false) (disch := omega) only [go_sem, simprocAttr, *]
      refine ⟨fun _ => rfl, evB_plain bo10 rfl rfl q1 b1 ?_⟩
      repeat' (first | refine wpB_seq ?_ | refine wpB_regionL rfl ?_ | refine wpB_block ?_ | refine wpB_skip ?_ | refine wpB_exit ?_ | refine wpB_ret ?_ | simp (maxSteps := 1000000) (dsimp := false) (disch := omega) only [go_sem, simprocAttr, *] | ((first | refine stepsB_both (fun hh => ?_) (fun hh => ?_) | refine stepsXB_both (fun hh => ?_) (fun hh => ?_)) <;> (try simp (maxSteps := 1000000) (dsimp := false) (disch := omega) only [go_sem, simprocAttr, decide_eq_true_eq, decide_eq_false_iff_not, Bool.not_eq_true, Bool.not_eq_false, Bool.not_eq_true', Bool.not_eq_false', Int.not_lt, Int.not_le, bne_iff_ne, bne_eq_false_iff_eq, beq_iff_eq, beq_eq_false_iff_ne, ne_eq, Int.ofNat_inj, Int.natCast_inj] at hh) <;> (try (exfalso; omega))) | (refine wpB_cond (by simp (maxSteps := 1000000) (dsimp := false) (disch := omega) only [go_sem, simprocAttr, *]; exact rfl) (fun hh => ?_) (fun hh => ?_) <;> (try simp (maxSteps := 1000000) (dsimp := false) (disch := omega) only [go_sem, simprocAttr, decide_eq_true_eq, decide_eq_false_iff_not, Bool.not_eq_true, Bool.not_eq_false, Bool.not_eq_true', Bool.not_eq_false', Int.not_lt, Int.not_le, bne_iff_ne, bne_eq_false_iff_eq, beq_iff_eq, beq_eq_false_iff_ne, ne_eq, Int.ofNat_inj, Int.natCast_inj] at hh) <;> (try (exfalso; omega))))
      refine wpB_regionXL (prs := []) (by kernel_rfl) rfl (by kernel_rfl) ?_; simp (maxSteps := 1000000) (dsimp := false) (disch := omega) only [go_sem, simprocAttr, *]
      refine ⟨fun _ => rfl, evB_plain bo7 rfl rfl q3 b4 ?_⟩
      repeat' (first | refine wpB_seq ?_ | refine wpB_regionL rfl ?_ | refine wpB_block ?_ | refine wpB_skip ?_ | refine wpB_exit ?_ | refine wpB_ret ?_ | simp (maxSteps := 1000000) (dsimp := false) (disch := omega) only [go_sem, simprocAttr, *, pairD] | ((first | refine stepsB_both (fun hh => ?_) (fun hh => ?_) | refine stepsXB_both (fun hh => ?_) (fun hh => ?_)) <;> (try simp (maxSteps := 1000000) (dsimp := false) (disch := omega) only [go_sem, simprocAttr, decide_eq_true_eq, decide_eq_false_iff_not, Bool.not_eq_true, Bool.not_eq_false, Bool.not_eq_true', Bool.not_eq_false', Int.not_lt, Int.not_le, bne_iff_ne, bne_eq_false_iff_eq, beq_iff_eq, beq_eq_false_iff_ne, ne_eq, Int.ofNat_inj, Int.natCast_inj] at hh) <;> (try (exfalso; omega))) | (refine wpB_cond (by simp (maxSteps := 1000000) (dsimp := false) (disch := omega) only [go_sem, simprocAttr, *, pairD]; exact rfl) (fun hh => ?_) (fun hh => ?_) <;> (try simp (maxSteps := 1000000) (dsimp := false) (disch := omega) only [go_sem, simprocAttr, decide_eq_true_eq, decide_eq_false_iff_not, Bool.not_eq_true, Bool.not_eq_false, Bool.not_eq_true', Bool.not_eq_false', Int.not_lt, Int.not_le, bne_iff_ne, bne_eq_false_iff_eq, beq_iff_eq, beq_eq_false_iff_ne, ne_eq, Int.ofNat_inj, Int.natCast_inj] at hh) <;> (try (exfalso; omega))))
      refine evB_plain bo7 rfl rfl s3 b5 ?_
      repeat' (first | refine wpB_seq ?_ | refine wpB_regionL rfl ?_ | refine wpB_block ?_ | refine wpB_skip ?_ | refine wpB_exit ?_ | refine wpB_ret ?_ | simp (maxSteps := 1000000) (dsimp := false) (disch := omega) only [go_sem, simprocAttr, *, pairD] | ((first | refine stepsB_both (fun hh => ?_) (fun hh => ?_) | refine stepsXB_both (fun hh => ?_) (fun hh => ?_)) <;> (try simp (maxSteps := 1000000) (dsimp := false) (disch := omega) only [go_sem, simprocAttr, decide_eq_true_eq, decide_eq_false_iff_not, Bool.not_eq_true, Bool.not_eq_false, Bool.not_eq_true', Bool.not_eq_false', Int.not_lt, Int.not_le, bne_iff_ne, bne_eq_false_iff_eq, beq_iff_eq, beq_eq_false_iff_ne, ne_eq, Int.ofNat_inj, Int.natCast_inj] at hh) <;> (try (exfalso; omega))) | (refine wpB_cond (by simp (maxSteps := 1000000) (dsimp := false) (disch := omega) only [go_sem, simprocAttr, *, pairD]; exact rfl) (fun hh => ?_) (fun hh => ?_) <;> (try simp (maxSteps := 1000000) (dsimp := false) (disch := omega) only [go_sem, simprocAttr, decide_eq_true_eq, decide_eq_false_iff_not, Bool.not_eq_true, Bool.not_eq_false, Bool.not_eq_true', Bool.not_eq_false', Int.not_lt, Int.not_le, bne_iff_ne, bne_eq_false_iff_eq, beq_iff_eq, beq_eq_false_iff_ne, ne_eq, Int.ofNat_inj, Int.natCast_inj] at hh) <;> (try (exfalso; omega))))
end Go.Proofs.W
end
/- What is shown of the interpreter's run of a function that writes nothing holds of the function's calls. -/
section
set_option linter.unusedVariables false
namespace Vm
open Go
theorem calls_of_ev [Base] {P : Program} {A : Ann} {f : FuncId} {args : List D} {H : Heap} {d : D} (hmo : P.follows .mixedOrders = true) (hA : PrimOk P A) (hb : bodied P f = true) (h : EvF P A f args H (fun d' H' => d' = d ∧ H' = H) (fun _ _ => False))
    {ρ : Rho} {im : Im} {w : World} {vs : List Value} (hR : Rel ρ im H w) (hvs : RepA ρ H.length im vs args) : Calls P f ⟨vs⟩ w (OutR ρ im H w (.ok d H)) := by
  obtain ⟨k, res, h1, h2⟩ := h
  cases res with
  | pan d' H' => exact h2.elim
  | ok d' H' =>
    obtain ⟨rfl, rfl⟩ := h2
    exact (runF_ok hmo hA k f args _ _ h1 ρ im w vs hR hvs).calls hb
end Vm
end
/- The least rule of some states, read of a maker of machines. -/
section
set_option maxHeartbeats 4000000
set_option linter.unusedVariables false
set_option linter.unusedSimpArgs false
namespace Go.Proofs.W
open Go Vm Go.Proofs.Zs07

/-- nothing is taken as it is -/
def A1 : Ann := { mode := fun _ => .pure, prim := fun _ => none }
theorem prim1 [Base] : PrimOk Tryd.prog A1 := ⟨fun f k h => (by cases h), fun f g h => (by cases h), fun f p h => (by cases h)⟩
theorem ruleL_cons {rs xs : List D} {x : D} {out r : Int} (h : ruleL rs (x :: xs) out = some r) : ∃ s q : Int, x = .int .i64 s ∧ 0 ≤ s ∧ rs[s.toNat]? = some (.int .i64 q) ∧ ruleL rs xs (if q ≥ 0 ∧ (out < 0 ∨ q < out) then q else out) = some r := by
  unfold ruleL at h
  split at h
  · rename_i e1; cases e1
  · rename_i e1
    cases e1
    split at h
    · split at h
      · rename_i q hq
        exact ⟨_, q, rfl, by assumption, hq, h⟩
      · cases h
    · cases h
  · cases h
theorem rule_ok (r : Nat) (f g : Bool) (xs rs : List D) (c0 c1 c2 c4 c5 c6 c7 : D) (H : Heap) (hg : hget H r = .arr [.agg [c0, c1, c2, .sl g rs, c4, c5, c6, c7]]) (x : Int) (hx : ruleL rs xs (-1) = some x) (hl : xs.length ≤ 1000000) :
    EvF Tryd.prog A1 37 [.ptr r 0 0, .sl f xs] H (fun d H' => d = .int .i64 x ∧ H' = H) (fun _ _ => False) := by
  refine evF_inB (n := 37) (rs := [.tmp 4]) Tryd.func37 rfl rfl rfl rfl rfl rfl ?_
  replace hx : Hid (ruleL rs (xs.drop 0) (-1) = some x) := hx
  repeat' (first | refine wpB_seq ?_ | refine wpB_regionL rfl ?_ | refine wpB_block ?_ | refine wpB_skip ?_ | refine wpB_exit ?_ | refine wpB_ret ?_ | simp (maxSteps := 1000000) (dsimp := false) (disch := omega) only [go_sem, simprocAttr, *] | ((first | refine stepsB_both (fun hh => ?_) (fun hh => ?_) | refine stepsXB_both (fun hh => ?_) (fun hh => ?_)) <;> (try simp (maxSteps := 1000000) (dsimp := false) (disch := omega) only [go_sem, simprocAttr, decide_eq_true_eq, decide_eq_false_iff_not, Bool.not_eq_true, Bool.not_eq_false, Bool.not_eq_true', Bool.not_eq_false', Int.not_lt, Int.not_le, bne_iff_ne, bne_eq_false_iff_eq, beq_iff_eq, beq_eq_false_iff_ne, ne_eq, Int.ofNat_inj, Int.natCast_inj] at hh) <;> (try (exfalso; omega))) | (refine wpB_cond (by simp (maxSteps := 1000000) (dsimp := false) (disch := omega) only [go_sem, simprocAttr, *]; exact rfl) (fun hh => ?_) (fun hh => ?_) <;> (try simp (maxSteps := 1000000) (dsimp := false) (disch := omega) only [go_sem, simprocAttr, decide_eq_true_eq, decide_eq_false_iff_not, Bool.not_eq_true, Bool.not_eq_false, Bool.not_eq_true', Bool.not_eq_false', Int.not_lt, Int.not_le, bne_iff_ne, bne_eq_false_iff_eq, beq_iff_eq, beq_eq_false_iff_ne, ne_eq, Int.ofNat_inj, Int.natCast_inj] at hh) <;> (try (exfalso; omega))))
  refine wpB_loop (fun e Hx => ∃ (j : Nat) (o : Int), j ≤ xs.length ∧ Hx = H ∧ e 0 = .ptr r 0 0 ∧ e 5 = .int .i64 o ∧ e 9 = .sl f xs ∧ e 10 = .int .i64 xs.length ∧ e 11 = .int .i64 j ∧ ruleL rs (xs.drop j) o = some x) (fun e H => xs.length - natOf (e 11)) ?_ ?_
  · exact ⟨0, -1, by omega, rfl, gs, gs, gs, gs, gs, hx⟩
  clear hx
  rintro e Hx ⟨j, o, hj, rfl, e0, e5, e9, e10, e11, hx⟩ R hR
  by_cases hb : j < xs.length
  case neg =>
    rw [List.drop_eq_nil_of_le (by omega)] at hx
    have : o = x := by simpa [ruleL] using hx
    subst this
    clear hx
    repeat' (first | refine wpB_seq ?_ | refine wpB_regionL rfl ?_ | refine wpB_block ?_ | refine wpB_skip ?_ | refine wpB_exit ?_ | refine wpB_ret ?_ | simp (maxSteps := 1000000) (dsimp := false) (disch := omega) only [go_sem, simprocAttr, *] | ((first | refine stepsB_both (fun hh => ?_) (fun hh => ?_) | refine stepsXB_both (fun hh => ?_) (fun hh => ?_)) <;> (try simp (maxSteps := 1000000) (dsimp := false) (disch := omega) only [go_sem, simprocAttr, decide_eq_true_eq, decide_eq_false_iff_not, Bool.not_eq_true, Bool.not_eq_false, Bool.not_eq_true', Bool.not_eq_false', Int.not_lt, Int.not_le, bne_iff_ne, bne_eq_false_iff_eq, beq_iff_eq, beq_eq_false_iff_ne, ne_eq, Int.ofNat_inj, Int.natCast_inj] at hh) <;> (try (exfalso; omega))) | (refine wpB_cond (by simp (maxSteps := 1000000) (dsimp := false) (disch := omega) only [go_sem, simprocAttr, *]; exact rfl) (fun hh => ?_) (fun hh => ?_) <;> (try simp (maxSteps := 1000000) (dsimp := false) (disch := omega) only [go_sem, simprocAttr, decide_eq_true_eq, decide_eq_false_iff_not, Bool.not_eq_true, Bool.not_eq_false, Bool.not_eq_true', Bool.not_eq_false', Int.not_lt, Int.not_le, bne_iff_ne, bne_eq_false_iff_eq, beq_iff_eq, beq_eq_false_iff_ne, ne_eq, Int.ofNat_inj, Int.natCast_inj] at hh) <;> (try (exfalso; omega))))
  have hd : xs.drop j = xs[j] :: xs.drop (j + 1) := List.drop_eq_getElem_cons hb
  rw [hd] at hx
  obtain ⟨s, q, hs, hs0, hq, hx⟩ := ruleL_cons hx
  have hcell : xs[j]? = some (.int .i64 s) := by rw [List.getElem?_eq_getElem hb, hs]
  have hsl : s < rs.length := by
    have := (List.getElem?_eq_some_iff.1 hq).1
    omega
  clear hd hs
  replace hx : Hid (ruleL rs (xs.drop (j + 1)) (if q ≥ 0 ∧ (o < 0 ∨ q < o) then q else o) = some x) := hx
  repeat' (first | refine wpB_seq ?_ | refine wpB_regionL rfl ?_ | refine wpB_block ?_ | refine wpB_skip ?_ | refine wpB_exit ?_ | refine wpB_ret ?_ | simp (maxSteps := 1000000) (dsimp := false) (disch := omega) only [go_sem, simprocAttr, *] | ((first | refine stepsB_both (fun hh => ?_) (fun hh => ?_) | refine stepsXB_both (fun hh => ?_) (fun hh => ?_)) <;> (try simp (maxSteps := 1000000) (dsimp := false) (disch := omega) only [go_sem, simprocAttr, decide_eq_true_eq, decide_eq_false_iff_not, Bool.not_eq_true, Bool.not_eq_false, Bool.not_eq_true', Bool.not_eq_false', Int.not_lt, Int.not_le, bne_iff_ne, bne_eq_false_iff_eq, beq_iff_eq, beq_eq_false_iff_ne, ne_eq, Int.ofNat_inj, Int.natCast_inj] at hh) <;> (try (exfalso; omega))) | (refine wpB_cond (by simp (maxSteps := 1000000) (dsimp := false) (disch := omega) only [go_sem, simprocAttr, *]; exact rfl) (fun hh => ?_) (fun hh => ?_) <;> (try simp (maxSteps := 1000000) (dsimp := false) (disch := omega) only [go_sem, simprocAttr, decide_eq_true_eq, decide_eq_false_iff_not, Bool.not_eq_true, Bool.not_eq_false, Bool.not_eq_true', Bool.not_eq_false', Int.not_lt, Int.not_le, bne_iff_ne, bne_eq_false_iff_eq, beq_iff_eq, beq_eq_false_iff_ne, ne_eq, Int.ofNat_inj, Int.natCast_inj] at hh) <;> (try (exfalso; omega))))
  all_goals first
    | (refine hR _ _ ⟨j + 1, q, by omega, rfl, gs, gs, gs, gs, gs, ?_⟩ ?_
       · have h := hx; unfold Hid at h
         rwa [if_pos (by omega)] at h
       · simp (maxSteps := 1000000) (dsimp := false) (disch := omega) only [go_sem, simprocAttr, *, natOf_int])
    | (refine hR _ _ ⟨j + 1, o, by omega, rfl, gs, gs, gs, gs, gs, ?_⟩ ?_
       · have h := hx; unfold Hid at h
         rwa [if_neg (by omega)] at h
       · simp (maxSteps := 1000000) (dsimp := false) (disch := omega) only [go_sem, simprocAttr, *, natOf_int])
theorem ruleG_inv {args : List D} {obs : List Ob} {d : D} (h : ruleG args obs = some d) : ∃ r f g xs rs c0 c1 c2 c4 c5 c6 c7 x, args = [.ptr r 0 0, .sl f xs] ∧ obs = [.arr [.agg [c0, c1, c2, .sl g rs, c4, c5, c6, c7]]] ∧ ruleL rs xs (-1) = some x ∧ d = .int .i64 x ∧ xs.length ≤ 1000000 := by
  unfold ruleG at h
  split at h
  · split at h
    case isFalse => cases h
    rename_i hl
    cases hx : ruleL _ _ (-1) with
    | none => rw [hx] at h; cases h
    | some x =>
      rw [hx] at h
      cases h
      exact ⟨_, _, _, _, _, _, _, _, _, _, _, _, x, rfl, rfl, hx, rfl, hl⟩
  · cases h
theorem mixed : Tryd.prog.follows .mixedOrders = true := by kernel_rfl
theorem rule_calls [Base] {args : List D} {H : Heap} {d : D} (h : ruleG args ((args.flatMap objsD).map (hget H)) = some d) {ρ : Rho} {im : Im} {w : World} {vs : List Value} (hR : Rel ρ im H w) (hvs : RepA ρ H.length im vs args) : Calls Tryd.prog 37 ⟨vs⟩ w (OutR ρ im H w (.ok d H)) := by
  obtain ⟨r, f, g, xs, rs, c0, c1, c2, c4, c5, c6, c7, x, rfl, hob, hx, rfl, hl⟩ := ruleG_inv h
  have hg : hget H r = .arr [.agg [c0, c1, c2, .sl g rs, c4, c5, c6, c7]] := by simpa [objsD] using hob
  exact calls_of_ev mixed prim1 bo37 (rule_ok r f g xs rs c0 c1 c2 c4 c5 c6 c7 H hg x hx hl) hR hvs
end Go.Proofs.W
end
/-
  DERIVED: THE SHELF's CONTRACTS AT THIS DUMP, IN PLAIN WORDS (tools/lay-plain.mjs out of 'TrydShelf.lean', which tools/lay-shelf.mjs wrote): THE SAME DECLARATIONS UNDER THE SAME NAMES: 'import', 'namespace', 'open', 'def', 'theorem' AND NOTHING ELSE: no command of the shelf's: FOR A HAND-IN. Each laying: the table of numbers ('.._ren') and one theorem, a field a fact of the dump's own or the kernel's comparison; each contract: ONE APPLICATION.
-/
section
namespace Go.Proofs
open Go.Shelf
def Tryd.lays146_ren : Go.Shelf.Ren := ⟨fun | 146 => 28 | 221 => 44 | 268 => 58 | 138 => 27 | 143 => 43 | 195 => 41 | 197 => 71 | 218 => 42 | 219 => 57 | 260 => 90 | 217 => 67 | 225 => 68 | 224 => 69 | 267 => 70 | 266 => 88 | 314 => 89 | n => n, fun | 9 => 9 | 31 => 69 | 3 => 3 | 4 => 4 | 0 => 0 | 105 => 117 | 21 => 21 | 5 => 5 | 46 => 82 | 119 => 142 | 139 => 145 | 138 => 144 | 146 => 134 | 51 => 131 | n => n, fun | 1 => 0 | 3 => 1 | 4 => 2 | n => n⟩
theorem Tryd.lays146 : Go.Proofs.Lays.n146 Tryd.prog Tryd.lays146_ren := {
  mixed := by kernel_rfl
  f138 := Tryd.func27.trans (congrArg some (by kernel_rfl))
  f143 := Tryd.func43.trans (congrArg some (by kernel_rfl))
  f146 := Tryd.func28.trans (congrArg some (by kernel_rfl))
  f195 := Tryd.func41.trans (congrArg some (by kernel_rfl))
  f197 := Tryd.func71.trans (congrArg some (by kernel_rfl))
  f217 := Tryd.func67.trans (congrArg some (by kernel_rfl))
  f218 := Tryd.func42.trans (congrArg some (by kernel_rfl))
  f219 := Tryd.func57.trans (congrArg some (by kernel_rfl))
  f221 := Tryd.func44.trans (congrArg some (by kernel_rfl))
  f224 := Tryd.func69.trans (congrArg some (by kernel_rfl))
  f225 := Tryd.func68.trans (congrArg some (by kernel_rfl))
  f260 := Tryd.func90.trans (congrArg some (by kernel_rfl))
  f266 := Tryd.func88.trans (congrArg some (by kernel_rfl))
  f267 := Tryd.func70.trans (congrArg some (by kernel_rfl))
  f268 := Tryd.func58.trans (congrArg some (by kernel_rfl))
  f314 := Tryd.func89.trans (congrArg some (by kernel_rfl))
  t0 := Tryd.underlying0
  a0 := Tryd.isAgg0
  z0 := Tryd.sizeOf0
  v0 := Tryd.zeroValue0
  t3 := Tryd.underlying3
  a3 := Tryd.isAgg3
  z3 := Tryd.sizeOf3
  v3 := Tryd.zeroValue3
  t4 := Tryd.underlying4
  a4 := Tryd.isAgg4
  z4 := Tryd.sizeOf4
  v4 := Tryd.zeroValue4
  t5 := Tryd.underlying5
  a5 := Tryd.isAgg5
  z5 := Tryd.sizeOf5
  v5 := Tryd.zeroValue5
  t9 := Tryd.underlying9
  a9 := Tryd.isAgg9
  z9 := Tryd.sizeOf9
  v9 := Tryd.zeroValue9
  t21 := Tryd.underlying21
  a21 := Tryd.isAgg21
  z21 := Tryd.sizeOf21
  v21 := Tryd.zeroValue21
  t31 := Tryd.underlying69
  a31 := Tryd.isAgg69
  z31 := Tryd.sizeOf69
  v31 := Tryd.zeroValue69
  t46 := Tryd.underlying82
  a46 := Tryd.isAgg82
  z46 := Tryd.sizeOf82
  v46 := Tryd.zeroValue82
  t51 := Tryd.underlying131
  a51 := Tryd.isAgg131
  z51 := Tryd.sizeOf131
  v51 := Tryd.zeroValue131
  t105 := Tryd.underlying117
  a105 := Tryd.isAgg117
  z105 := Tryd.sizeOf117
  v105 := Tryd.zeroValue117
  t119 := Tryd.underlying142
  a119 := Tryd.isAgg142
  z119 := Tryd.sizeOf142
  t138 := Tryd.underlying144
  a138 := Tryd.isAgg144
  z138 := Tryd.sizeOf144
  v138 := Tryd.zeroValue144
  t139 := Tryd.underlying145
  a139 := Tryd.isAgg145
  z139 := Tryd.sizeOf145
  v139 := Tryd.zeroValue145
  t146 := Tryd.underlying134
  a146 := Tryd.isAgg134
  z146 := Tryd.sizeOf134
  v146 := Tryd.zeroValue134
  g1 := by kernel_rfl
  g3 := by kernel_rfl
  g4 := by kernel_rfl }
open Go.RowKit Go.Lib in
/-- strings.Split. (LAID: no walk: one application.) -/
theorem Tryd.strings_Split (s sep : ByteArray) (m : Int) (w : World) (hs : s.size < 4294967281) (hm : w.cell? ⟨0, 0, none⟩ = some (.int .i64 m)) (h1 : 1 ≤ sep.size) :
    Calls Tryd.prog 28 #[.string s, .string sep] w fun e w' =>
      e = .returned (.slice (some ⟨w.heap.size, 0, none⟩) (Lib.countB s sep + 1) (Lib.countB s sep + 1)) ∧ w' = w.alloc (.cells ((Lib.splitB sep 0 (Lib.countB s sep) s).map Value.string).toArray 9) := Any.strings_Split Tryd.lays146 (by kernel_rfl) s sep m w hs hm h1
def Tryd.lays138_ren : Go.Shelf.Ren := ⟨fun | 138 => 27 | 195 => 41 | 218 => 42 | 143 => 43 | 219 => 57 | 217 => 67 | 225 => 68 | 224 => 69 | 267 => 70 | 266 => 88 | 314 => 89 | n => n, fun | 9 => 9 | 3 => 3 | 4 => 4 | 5 => 5 | 0 => 0 | 46 => 82 | 146 => 134 | 51 => 131 | n => n, fun | 1 => 0 | n => n⟩
theorem Tryd.lays138 : Go.Proofs.Lays.n138 Tryd.prog Tryd.lays138_ren := {
  mixed := by kernel_rfl
  f138 := Tryd.func27.trans (congrArg some (by kernel_rfl))
  f143 := Tryd.func43.trans (congrArg some (by kernel_rfl))
  f195 := Tryd.func41.trans (congrArg some (by kernel_rfl))
  f217 := Tryd.func67.trans (congrArg some (by kernel_rfl))
  f218 := Tryd.func42.trans (congrArg some (by kernel_rfl))
  f219 := Tryd.func57.trans (congrArg some (by kernel_rfl))
  f224 := Tryd.func69.trans (congrArg some (by kernel_rfl))
  f225 := Tryd.func68.trans (congrArg some (by kernel_rfl))
  f266 := Tryd.func88.trans (congrArg some (by kernel_rfl))
  f267 := Tryd.func70.trans (congrArg some (by kernel_rfl))
  f314 := Tryd.func89.trans (congrArg some (by kernel_rfl))
  t0 := Tryd.underlying0
  a0 := Tryd.isAgg0
  z0 := Tryd.sizeOf0
  v0 := Tryd.zeroValue0
  t3 := Tryd.underlying3
  a3 := Tryd.isAgg3
  z3 := Tryd.sizeOf3
  v3 := Tryd.zeroValue3
  t4 := Tryd.underlying4
  a4 := Tryd.isAgg4
  z4 := Tryd.sizeOf4
  v4 := Tryd.zeroValue4
  t5 := Tryd.underlying5
  a5 := Tryd.isAgg5
  z5 := Tryd.sizeOf5
  v5 := Tryd.zeroValue5
  t9 := Tryd.underlying9
  a9 := Tryd.isAgg9
  z9 := Tryd.sizeOf9
  v9 := Tryd.zeroValue9
  t46 := Tryd.underlying82
  a46 := Tryd.isAgg82
  z46 := Tryd.sizeOf82
  v46 := Tryd.zeroValue82
  t51 := Tryd.underlying131
  a51 := Tryd.isAgg131
  z51 := Tryd.sizeOf131
  v51 := Tryd.zeroValue131
  t146 := Tryd.underlying134
  a146 := Tryd.isAgg134
  z146 := Tryd.sizeOf134
  v146 := Tryd.zeroValue134
  g1 := by kernel_rfl }
open Go.RowKit Go.Lib in
/-- strings.Count at whatever sep that is not empty: the two roads under one statement. (LAID: no walk: one application.) -/
theorem Tryd.strings_Count_any (s sep : ByteArray) (m : Int) (w : World) (hs : s.size < 4294967281) (hm : w.cell? ⟨0, 0, none⟩ = some (.int .i64 m)) (h1 : 1 ≤ sep.size) :
    Calls Tryd.prog 27 #[.string s, .string sep] w fun e w' => e = .returned (.int .i64 (Lib.countB s sep)) ∧ w' = w := Any.strings_Count_any Tryd.lays138 s sep m w hs hm h1
def Tryd.lays145_ren : Go.Shelf.Ren := ⟨fun | 145 => 45 | 220 => 59 | 219 => 57 | 217 => 67 | 225 => 68 | 224 => 69 | 267 => 70 | 266 => 88 | 314 => 89 | n => n, fun | 9 => 9 | 4 => 4 | 59 => 89 | 3 => 3 | 5 => 5 | 46 => 82 | 146 => 134 | 51 => 131 | n => n, fun | 1 => 0 | n => n⟩
theorem Tryd.lays145 : Go.Proofs.Lays.n145 Tryd.prog Tryd.lays145_ren := {
  mixed := by kernel_rfl
  f145 := Tryd.func45.trans (congrArg some (by kernel_rfl))
  f217 := Tryd.func67.trans (congrArg some (by kernel_rfl))
  f219 := Tryd.func57.trans (congrArg some (by kernel_rfl))
  f220 := Tryd.func59.trans (congrArg some (by kernel_rfl))
  f224 := Tryd.func69.trans (congrArg some (by kernel_rfl))
  f225 := Tryd.func68.trans (congrArg some (by kernel_rfl))
  f266 := Tryd.func88.trans (congrArg some (by kernel_rfl))
  f267 := Tryd.func70.trans (congrArg some (by kernel_rfl))
  f314 := Tryd.func89.trans (congrArg some (by kernel_rfl))
  t3 := Tryd.underlying3
  a3 := Tryd.isAgg3
  z3 := Tryd.sizeOf3
  v3 := Tryd.zeroValue3
  t4 := Tryd.underlying4
  a4 := Tryd.isAgg4
  z4 := Tryd.sizeOf4
  v4 := Tryd.zeroValue4
  t5 := Tryd.underlying5
  a5 := Tryd.isAgg5
  z5 := Tryd.sizeOf5
  v5 := Tryd.zeroValue5
  t9 := Tryd.underlying9
  a9 := Tryd.isAgg9
  z9 := Tryd.sizeOf9
  v9 := Tryd.zeroValue9
  t46 := Tryd.underlying82
  a46 := Tryd.isAgg82
  z46 := Tryd.sizeOf82
  v46 := Tryd.zeroValue82
  t51 := Tryd.underlying131
  a51 := Tryd.isAgg131
  z51 := Tryd.sizeOf131
  v51 := Tryd.zeroValue131
  t59 := Tryd.underlying89
  a59 := Tryd.isAgg89
  z59 := Tryd.sizeOf89
  v59 := Tryd.zeroValue89
  t146 := Tryd.underlying134
  a146 := Tryd.isAgg134
  z146 := Tryd.sizeOf134
  v146 := Tryd.zeroValue134
  g1 := by kernel_rfl }
open Go.RowKit Go.Lib in
/-- strings.Cut: "Cut slices s around the first instance of sep, returning the text before and after sep. The found result reports whether sep appears in s. If sep does not appear in s, cut returns s, "", false.": IT RETURNS 'Lib.cut s sep'; the world is as it was but for the count of draws. (LAID: no walk: one application.) -/
theorem Tryd.strings_Cut (s sep : ByteArray) (m : Int) (w : World) (hs : s.size < 4294967281) (hm : w.cell? ⟨0, 0, none⟩ = some (.int .i64 m)) :
    Calls Tryd.prog 45 #[.string s, .string sep] w fun e w' => e = .returned (.tuple #[.string ⟨(Lib.cut s.data.toList sep.data.toList).1.toArray⟩, .string ⟨(Lib.cut s.data.toList sep.data.toList).2.1.toArray⟩, .bool (Lib.cut s.data.toList sep.data.toList).2.2]) ∧ ∃ n, w' = w.drewN n := Any.strings_Cut Tryd.lays145 s sep m w hs hm
def Tryd.lays104_ren : Go.Shelf.Ren := ⟨fun | 104 => 46 | 211 => 60 | 207 => 72 | n => n, fun | 9 => 9 | 4 => 4 | 24 => 91 | 3 => 3 | n => n, fun | n => n⟩
theorem Tryd.lays104 : Go.Proofs.Lays.n104 Tryd.prog Tryd.lays104_ren := {
  mixed := by kernel_rfl
  f104 := Tryd.func46.trans (congrArg some (by kernel_rfl))
  f207 := Tryd.func72.trans (congrArg some (by kernel_rfl))
  f211 := Tryd.func60.trans (congrArg some (by kernel_rfl))
  t3 := Tryd.underlying3
  a3 := Tryd.isAgg3
  z3 := Tryd.sizeOf3
  v3 := Tryd.zeroValue3
  t4 := Tryd.underlying4
  a4 := Tryd.isAgg4
  z4 := Tryd.sizeOf4
  v4 := Tryd.zeroValue4
  t9 := Tryd.underlying9
  a9 := Tryd.isAgg9
  z9 := Tryd.sizeOf9
  v9 := Tryd.zeroValue9
  t24 := Tryd.underlying91
  a24 := Tryd.isAgg91
  z24 := Tryd.sizeOf91
  v24 := Tryd.zeroValue91 }
open Go.RowKit in
/-- strings.CutSuffix: "CutSuffix returns s without the provided ending suffix string and reports whether it found the suffix. If s doesn't end with suffix, CutSuffix returns s, false. If suffix is the empty string, CutSuffix returns s, true.": IT RETURNS '(Lib.trimSuffix s p, Lib.hasSuffix s p)'; the world is as it was. (LAID: no walk: one application.) -/
theorem Tryd.strings_CutSuffix (s p : ByteArray) (w : World) (hs : s.size ≤ 9223372036854775807) :
    Calls Tryd.prog 46 #[.string s, .string p] w fun e w' => e = .returned (.tuple #[.string ⟨(Lib.trimSuffix s.data.toList p.data.toList).toArray⟩, .bool (Lib.hasSuffix s.data.toList p.data.toList)]) ∧ w' = w := Any.strings_CutSuffix Tryd.lays104 s p w hs
def Tryd.lays137_ren : Go.Shelf.Ren := ⟨fun | 137 => 105 | 217 => 67 | 266 => 88 | n => n, fun | 9 => 9 | 5 => 5 | 3 => 3 | n => n, fun | n => n⟩
theorem Tryd.lays137 : Go.Proofs.Lays.n137 Tryd.prog Tryd.lays137_ren := {
  mixed := by kernel_rfl
  f137 := Tryd.func105.trans (congrArg some (by kernel_rfl))
  f217 := Tryd.func67.trans (congrArg some (by kernel_rfl))
  f266 := Tryd.func88.trans (congrArg some (by kernel_rfl))
  t3 := Tryd.underlying3
  a3 := Tryd.isAgg3
  z3 := Tryd.sizeOf3
  v3 := Tryd.zeroValue3
  t5 := Tryd.underlying5
  a5 := Tryd.isAgg5
  z5 := Tryd.sizeOf5
  v5 := Tryd.zeroValue5
  t9 := Tryd.underlying9
  a9 := Tryd.isAgg9
  z9 := Tryd.sizeOf9
  v9 := Tryd.zeroValue9 }
open Go.RowKit in
/-- strings.IndexByte: "IndexByte returns the index of the first instance of c in s, or -1 if c is not present in s.": IT RETURNS 'Lib.indexByte s c'; the world is as it was. (LAID: no walk: one application.) -/
theorem Tryd.strings_IndexByte (s : ByteArray) (c : Int) (w : World) :
    Calls Tryd.prog 105 #[.string s, .int .u8 c] w fun e w' => e = .returned (.int .i64 (Lib.indexByte s.data.toList c.toNat.toUInt8)) ∧ w' = w := Any.strings_IndexByte Tryd.lays137 s c w
def Tryd.lays189_ren : Go.Shelf.Ren := ⟨fun | 189 => 55 | 125 => 66 | 257 => 65 | 128 => 86 | 129 => 87 | 294 => 77 | 295 => 78 | 296 => 79 | 297 => 80 | 298 => 81 | 299 => 82 | 216 => 83 | 300 => 84 | 301 => 85 | 328 => 93 | 329 => 94 | 330 => 95 | 331 => 96 | 332 => 97 | 215 => 98 | 343 => 101 | n => n, fun | 28 => 23 | 3 => 3 | 46 => 82 | 0 => 0 | 51 => 131 | 53 => 133 | 4 => 4 | 183 => 124 | 182 => 123 | 131 => 83 | 5 => 5 | 9 => 9 | 218 => 137 | 222 => 98 | 228 => 147 | 229 => 27 | n => n, fun | n => n⟩
theorem Tryd.lays189 : Go.Proofs.Lays.n189 Tryd.prog Tryd.lays189_ren := {
  mixed := by kernel_rfl
  f125 := Tryd.func66.trans (congrArg some (by kernel_rfl))
  f128 := Tryd.func86.trans (congrArg some (by kernel_rfl))
  f129 := Tryd.func87.trans (congrArg some (by kernel_rfl))
  f189 := Tryd.func55.trans (congrArg some (by kernel_rfl))
  f215 := Tryd.func98.trans (congrArg some (by kernel_rfl))
  f216 := Tryd.func83.trans (congrArg some (by kernel_rfl))
  f257 := Tryd.func65.trans (congrArg some (by kernel_rfl))
  f294 := Tryd.func77.trans (congrArg some (by kernel_rfl))
  f295 := Tryd.func78.trans (congrArg some (by kernel_rfl))
  f296 := Tryd.func79.trans (congrArg some (by kernel_rfl))
  f297 := Tryd.func80.trans (congrArg some (by kernel_rfl))
  f298 := Tryd.func81.trans (congrArg some (by kernel_rfl))
  f299 := Tryd.func82.trans (congrArg some (by kernel_rfl))
  f300 := Tryd.func84.trans (congrArg some (by kernel_rfl))
  f301 := Tryd.func85.trans (congrArg some (by kernel_rfl))
  f328 := Tryd.func93.trans (congrArg some (by kernel_rfl))
  f329 := Tryd.func94.trans (congrArg some (by kernel_rfl))
  f330 := Tryd.func95.trans (congrArg some (by kernel_rfl))
  f331 := Tryd.func96.trans (congrArg some (by kernel_rfl))
  f332 := Tryd.func97.trans (congrArg some (by kernel_rfl))
  f343 := Tryd.func101.trans (congrArg some (by kernel_rfl))
  t0 := Tryd.underlying0
  a0 := Tryd.isAgg0
  z0 := Tryd.sizeOf0
  v0 := Tryd.zeroValue0
  t3 := Tryd.underlying3
  a3 := Tryd.isAgg3
  z3 := Tryd.sizeOf3
  v3 := Tryd.zeroValue3
  t4 := Tryd.underlying4
  a4 := Tryd.isAgg4
  z4 := Tryd.sizeOf4
  v4 := Tryd.zeroValue4
  t5 := Tryd.underlying5
  a5 := Tryd.isAgg5
  z5 := Tryd.sizeOf5
  v5 := Tryd.zeroValue5
  t9 := Tryd.underlying9
  a9 := Tryd.isAgg9
  z9 := Tryd.sizeOf9
  v9 := Tryd.zeroValue9
  t28 := Tryd.underlying23
  a28 := Tryd.isAgg23
  z28 := Tryd.sizeOf23
  v28 := Tryd.zeroValue23
  t46 := Tryd.underlying82
  a46 := Tryd.isAgg82
  z46 := Tryd.sizeOf82
  v46 := Tryd.zeroValue82
  t51 := Tryd.underlying131
  a51 := Tryd.isAgg131
  z51 := Tryd.sizeOf131
  v51 := Tryd.zeroValue131
  t53 := Tryd.underlying133
  a53 := Tryd.isAgg133
  z53 := Tryd.sizeOf133
  v53 := Tryd.zeroValue133
  t131 := Tryd.underlying83
  a131 := Tryd.isAgg83
  z131 := Tryd.sizeOf83
  v131 := Tryd.zeroValue83
  t182 := Tryd.underlying123
  a182 := Tryd.isAgg123
  z182 := Tryd.sizeOf123
  v182 := Tryd.zeroValue123
  t183 := Tryd.underlying124
  a183 := Tryd.isAgg124
  z183 := Tryd.sizeOf124
  v183 := Tryd.zeroValue124
  t218 := Tryd.underlying137
  a218 := Tryd.isAgg137
  z218 := Tryd.sizeOf137
  v218 := Tryd.zeroValue137
  t222 := Tryd.underlying98
  a222 := Tryd.isAgg98
  z222 := Tryd.sizeOf98
  v222 := Tryd.zeroValue98
  t228 := Tryd.underlying147
  a228 := Tryd.isAgg147
  z228 := Tryd.sizeOf147
  v228 := Tryd.zeroValue147
  t229 := Tryd.underlying27
  a229 := Tryd.isAgg27
  z229 := Tryd.sizeOf27
  v229 := Tryd.zeroValue27 }
open Go.Sort Go.RowKit in
theorem Tryd.slices_Sort_int (blk off cap : Nat) (zs : List Int) (w : World) (hH : Holds (Value.int .i64) w blk off zs.toArray) (hblk : blk < w.heap.size) (hsz : zs.length < 4611686018427387904) :
    Calls Tryd.prog 55 #[.slice (some ⟨blk, off, none⟩) zs.length cap] w fun e w' =>
      e = .returned (.tuple #[]) ∧ ∃ n os, w' = grow (putRow (Value.int .i64) (Sort.ahead w n) blk off (zs.mergeSort fun x y => decide (x ≤ y)).toArray) os := Any.slices_Sort_int Tryd.lays189 blk off cap zs w hH hblk hsz
open Go.RowKit Go.Sort in
/-- .. and plain. (LAID: no walk: one application.) -/
theorem Tryd.slices_Sort_int_none (p : Option Addr) (cap : Nat) (w : World) :
    Calls Tryd.prog 55 #[.slice p 0 cap] w fun e w' => e = .returned (.tuple #[]) ∧ w' = w := Any.slices_Sort_int_none Tryd.lays189 p cap w
def Tryd.laysNm220_ren : Go.Shelf.Ren := ⟨fun | 20 => 56 | n => n, fun | 22 => 23 | 3 => 3 | 4 => 4 | 0 => 0 | n => n, fun | n => n⟩
theorem Tryd.laysNm220 : Go.Proofs.Lays2.n20 Tryd.prog Tryd.laysNm220_ren := {
  mixed := by kernel_rfl
  f20 := Tryd.func56.trans (congrArg some (by kernel_rfl))
  t0 := Tryd.underlying0
  a0 := Tryd.isAgg0
  z0 := Tryd.sizeOf0
  v0 := Tryd.zeroValue0
  t3 := Tryd.underlying3
  a3 := Tryd.isAgg3
  z3 := Tryd.sizeOf3
  v3 := Tryd.zeroValue3
  t4 := Tryd.underlying4
  a4 := Tryd.isAgg4
  z4 := Tryd.sizeOf4
  v4 := Tryd.zeroValue4
  t22 := Tryd.underlying23
  a22 := Tryd.isAgg23
  z22 := Tryd.sizeOf23
  v22 := Tryd.zeroValue23
  i3 := by kernel_rfl }
open Go.RowKit Go.Lib Go.Sort in
/-- slices.Compact at []int: "Compact replaces consecutive runs of equal elements with a single copy. This is like the uniq command found on Unix. Compact modifies the contents of the slice s and returns the modified slice, which may have a smaller length. Compact zeroes the elements between the new length and the original length. The result preserves the nilness of s.": IT RETURNS THE SLICE CUT TO 'Lib.compact zs'; ITS CELLS HOLD 'Lib.compact zs', THEN ZERO VALUES up to the old length; all else is as it was, but for the count of draws. IN THE WORDS OF slices.Sort's CONTRACT ('Holds', 'putRow'): so the everyday 'slices.Sort(xs); xs = slices.Compact(xs)' goes from the one contract to the other. It asks 'zs.length ≤ cap' (every slice's: the reslicing 's[:k]' looks at it). Length 0, nil: '.._empty'. (LAID: no walk: one application.) -/
theorem Tryd.slices_Compact_int (blk off cap : Nat) (zs : List Int) (w : World) (hH : Holds (Value.int .i64) w blk off zs.toArray) (hsz : zs.length ≤ 9223372036854775807) (hcap : zs.length ≤ cap) :
    Calls Tryd.prog 56 #[.slice (some ⟨blk, off, none⟩) zs.length cap] w fun e w' => e = .returned (.slice (some ⟨blk, off, none⟩) (Lib.compact zs).length cap) ∧ ∃ q, w' = putRow (Value.int .i64) (Sort.ahead w q) blk off (Lib.compact zs ++ List.replicate (zs.length - (Lib.compact zs).length) 0).toArray := Any.slices_Compact_int Tryd.laysNm220 blk off cap zs w hH hsz hcap
open Go.RowKit Go.Lib Go.Sort in
/-- The same at a slice of length 0, a nil one too: it comes back as it is. (LAID: no walk: one application.) -/
theorem Tryd.slices_Compact_int_empty (a : Option Addr) (cap : Nat) (w : World) :
    Calls Tryd.prog 56 #[.slice a 0 cap] w fun e w' => e = .returned (.slice a 0 cap) ∧ w' = w := Any.slices_Compact_int_empty Tryd.laysNm220 a cap w
end Go.Proofs
end
/- The chapter on machines without free steps: the functions that are taken as they are. -/
section
set_option maxHeartbeats 4000000
set_option linter.unusedVariables false
set_option linter.unusedSimpArgs false
namespace Go.Proofs.W
open Go Vm Go.Proofs.Zs07

theorem primA [Base] (hB : ∃ m, Base.B 0 0 = some (.int .i64 m)) : PrimOk Tryd.prog A := by
  refine ⟨fun f k h => (by cases h), fun f g h args H d hd ρ im w vs hR hvs => ?_, ?_⟩
  · simp only [A] at h
    split at h
    · rename_i e; subst e; cases h
      exact rule_calls hd hR hvs
    · cases h
  intro f p h args H r hr ρ im w vs hR hvs
  simp only [A] at h
  split at h
  · rename_i e; subst e; cases h
    exact pSplit_at (g := 0) hB (fun s sep m w h1 h2 h3 => Tryd.strings_Split s sep m w h1 h2 h3) args H r hr ρ im w vs hR hvs
  split at h
  · rename_i e; subst e; cases h
    exact pCount_at (g := 0) hB (fun s sep m w h1 h2 h3 => Tryd.strings_Count_any s sep m w h1 h2 h3) args H r hr ρ im w vs hR hvs
  split at h
  · rename_i e; subst e; cases h
    exact pCut_at (g := 0) hB (fun s sep m w h1 h2 => Tryd.strings_Cut s sep m w h1 h2) args H r hr ρ im w vs hR hvs
  split at h
  · rename_i e; subst e; cases h
    exact pCutSuffix_at (fun s p w h1 => Tryd.strings_CutSuffix s p w h1) args H r hr ρ im w vs hR hvs
  split at h
  · rename_i e; subst e; cases h
    exact pIndexByte_at (fun s c w => Tryd.strings_IndexByte s c w) args H r hr ρ im w vs hR hvs
  split at h
  · rename_i e; subst e; cases h
    exact pSort_at (fun blk cap zs w h1 h2 h3 => Tryd.slices_Sort_int blk 0 cap zs w h1 h2 h3) (fun p cap w => Tryd.slices_Sort_int_none p cap w) args H r hr ρ im w vs hR hvs
  split at h
  · rename_i e; subst e; cases h
    exact pCompact_at (fun blk cap zs w h1 h2 h3 => Tryd.slices_Compact_int blk 0 cap zs w h1 h2 h3) (fun p cap w => Tryd.slices_Compact_int_empty p cap w) args H r hr ρ im w vs hR hvs
  · cases h
end Go.Proofs.W
end
/- From a law's runs to the row that lists variables. -/
section
set_option linter.unusedVariables false
namespace Vm
open Go
section
variable {P : Program}
theorem typed_str {t : TypeId} {ds : List D} (hu : P.underlying t = some .string) (h : Typed P t ds) : ∃ s, ds = [.str s] ∧ s.length ≤ maxLen := by
  cases h with
  | bool _ b h => rw [hu] at h; cases h
  | int _ k1 n h hn => rw [hu] at h; cases h
  | str _ s h hs => exact ⟨s, rfl, hs⟩
  | slice _ e xs h hl hx => rw [hu] at h; cases h
  | struct _ fs ds h hf => rw [hu] at h; cases h
  | array _ e n ds h hf => rw [hu] at h; cases h
theorem typed_bool {t : TypeId} {ds : List D} (hu : P.underlying t = some .bool) (h : Typed P t ds) : ∃ b, ds = [.bool b] := by
  cases h with
  | bool _ b h => exact ⟨b, rfl⟩
  | int _ k1 n h hn => rw [hu] at h; cases h
  | str _ s h hs => rw [hu] at h; cases h
  | slice _ e xs h hl hx => rw [hu] at h; cases h
  | struct _ fs ds h hf => rw [hu] at h; cases h
  | array _ e n ds h hf => rw [hu] at h; cases h
theorem typedF_cons {t : TypeId} {ts : List TypeId} {ds : List D} (h : TypedF P (t :: ts) ds) : ∃ a b, ds = a ++ b ∧ Typed P t a ∧ TypedF P ts b := by
  cases h with
  | cons _ _ a b h hr => exact ⟨a, b, rfl, h, hr⟩
theorem typedE_one {e : TypeId} {xs : List D} (ha : aggT P e = false) (h : TypedE P e xs) {α : Type} (f : α → D) (hf : ∀ x, Typed P e [x] → ∃ a, x = f a) : ∃ l : List α, xs = l.map f := by
  induction xs with
  | nil => exact ⟨[], rfl⟩
  | cons x xs ih =>
    cases h with
    | agg _ cs _ ha' h hr => rw [ha] at ha'; cases ha'
    | one _ _ _ ha' h hr =>
      obtain ⟨l, hl⟩ := ih hr
      obtain ⟨a, hb⟩ := hf x h
      exact ⟨a :: l, by rw [List.map_cons, ← hl, hb]⟩
/-- as 'typedE_agg', for what lies within: each element is less than the list -/
theorem typedE_aggI {e : TypeId} {xs : List D} (ha : aggT P e = true) (h : TypedE P e xs) {α : Type} (f : α → D) (q : α → Prop) (hf : ∀ cs, SizeOf.sizeOf cs < SizeOf.sizeOf xs → Typed P e cs → ∃ a, D.agg cs = f a ∧ q a) : ∃ l : List α, xs = l.map f ∧ ∀ a ∈ l, q a := by
  induction xs with
  | nil => exact ⟨[], rfl, by simp⟩
  | cons x xs ih =>
    cases h with
    | agg _ cs _ ha' h hr =>
      obtain ⟨l, hl, hq⟩ := ih hr (fun cs hc => hf cs (by simp only [List.cons.sizeOf_spec]; omega))
      obtain ⟨a, hb, hqa⟩ := hf cs (by simp only [List.cons.sizeOf_spec, D.agg.sizeOf_spec]; omega) h
      refine ⟨a :: l, by rw [List.map_cons, ← hl, hb], fun y hy => ?_⟩
      rcases List.mem_cons.1 hy with rfl | hy
      · exact hqa
      · exact hq y hy
    | one _ _ _ ha' h hr => rw [ha] at ha'; cases ha'
theorem typedF_nil' {ds : List D} (h : TypedF P [] ds) : ds = [] := by cases h; rfl
theorem typedA_str {t : TypeId} {ts : List TypeId} {ds : List D} (hu : P.underlying t = some .string) (ha : aggT P t = false) (h : TypedA P (t :: ts) ds) : ∃ s r, ds = .str s :: r ∧ s.length ≤ maxLen ∧ TypedA P ts r := by
  obtain ⟨d, r, rfl, h1, h2⟩ := typedA_one ha h
  obtain ⟨s, hs, hl⟩ := typed_str hu h1
  cases hs
  exact ⟨s, r, rfl, hl, h2⟩
theorem typedA_int {t : TypeId} {k : IntKind} {ts : List TypeId} {ds : List D} (hu : P.underlying t = some (.int k)) (ha : aggT P t = false) (h : TypedA P (t :: ts) ds) : ∃ n r, ds = .int k n :: r ∧ (Lit.int k n).wf = true ∧ TypedA P ts r := by
  obtain ⟨d, r, rfl, h1, h2⟩ := typedA_one ha h
  obtain ⟨s, hs, hl⟩ := typed_int hu h1
  cases hs
  exact ⟨s, r, rfl, hl, h2⟩
theorem typedA_slice {t e : TypeId} {ts : List TypeId} {ds : List D} (hu : P.underlying t = some (.slice e)) (ha : aggT P t = false) (h : TypedA P (t :: ts) ds) : ∃ xs r, ds = .sl false xs :: r ∧ xs.length ≤ maxLen ∧ TypedE P e xs ∧ TypedA P ts r := by
  obtain ⟨d, r, rfl, h1, h2⟩ := typedA_one ha h
  obtain ⟨s, hs, hl, hx⟩ := typed_slice hu h1
  cases hs
  exact ⟨s, r, rfl, hl, hx, h2⟩
theorem typedE_ints {e : TypeId} {k : IntKind} {xs : List D} (hu : P.underlying e = some (.int k)) (ha : aggT P e = false) (h : TypedE P e xs) : ∃ l : List Int, xs = l.map (.int k) :=
  typedE_one ha h _ fun x hx => by
    obtain ⟨n, hn, -⟩ := typed_int hu hx
    cases hn
    exact ⟨n, rfl⟩
end

/-- the row's contract, where it lists variables and a function reads one of the library's own -/
theorem law_lifted {C : Checked} {os : Os} {f : FuncId} {fn : Func} {s : ChangeSpec} {H : Type} {enc : TypeId × Value → H} {conds : List PathCond} {laid : List (String × DataW Unit)} {A : Ann} {S : List TypeId} {tb : TypeId}
    (started : os.Started) (own : ownKnob C.prog.godebug = none) (noInit : C.prog.inits.idxOf? f = none) (hfn : C.prog.funcs[f]? = some fn)
    (witness : ∃ (w : World) (tape : Tape) (i : Input), w.os = os ∧ (w.forCall tape i).Shaped C.prog ∧ i.vars = [] ∧ Input.okWide C.prog (w.forCall tape i) .any w.heap.size f i ∧
      ((s.pre enc C.prog fn conds false (w.forCall tape i).memory i.args ∧ laidMetH C.prog laid (w.forCall tape i).memory) ∧ sizedMet enc C.prog fn (OpenSpec.ofChange s) false (w.forCall tape i).memory i.args) ∧ ({} : Assume).holds C.prog (lone (Frame.enter C.prog f i.args .normal) [] (w.forCall tape i)))
    (hvars : s.vars = []) (hl : laidOutB C.prog = true)
    (hts : (fn.params.toList.all fun t => C.prog.readableRec t && decide (t < C.prog.types.size)) = true) (hS : plainS C.prog S = true) (hpl : (fn.params.toList.all fun t => S.contains t) = true)
    (hbod : bodied C.prog f = true) (hres : fn.resultTypes = #[tb]) (htb : C.prog.underlying tb = some .bool)
    (hs : ∀ ds : List (DataW H), ds.length = fn.params.size → (s.fn H ds).results = [.lit (.bool true)] ∧ (s.fn H ds).args = ds ∧ (s.fn H ds).vars = [])
    (hprim : ∀ W : World, W.ShapedOpen C.prog → @PrimOk ⟨im0 W⟩ C.prog A)
    (hrun : ∀ Ds, TypedA C.prog fn.params.toList Ds → ∃ k H', runF C.prog A k f Ds [] = some (.ok (.bool true) H')) :
    ReturnsInHanded {} C os f .any (fun w args => (s.pre enc C.prog fn conds false w args ∧ laidMetH C.prog laid w) ∧ sizedMet enc C.prog fn (OpenSpec.ofChange s) false w args) (s.post enc C.prog fn false true false false) := by
  refine returnsInHanded_of_calls own started noInit witness ?_
  intro w tape i _ hsh _ hok hpre hholds
  obtain ⟨_, _, _, fn', hfn', _, _, _, _, hval⟩ := hok
  have e : fn' = fn := Option.some.inj (hfn'.symm.trans hfn)
  subst e
  obtain ⟨⟨⟨ds, gs, before, hw, hc⟩, hx⟩, hz⟩ := hpre
  have hw' := DataW.Whole.of_heap (w' := w.forCall tape i) (by rfl) hw
  have hts' : ∀ t ∈ fn'.params.toList, C.prog.readableRec t = true ∧ t < C.prog.types.size := fun t ht => by
    have h2 : C.prog.readableRec t = true ∧ decide (t < C.prog.types.size) = true := by simpa only [Bool.and_eq_true] using List.all_eq_true.1 hts t ht
    exact ⟨h2.1, of_decide_eq_true h2.2⟩
  refine (law_contract hvars hl hts' hS hpl hbod hres htb hs hrun (w.forCall tape i) w.heap.size i.args ds gs before hval hw' (hprim _ hsh)).mono fun e W' ⟨v, he, hp⟩ => ?_
  subst he
  exact ChangeSpec.post_blind hp
end Vm
end
/- The chapter on machines without free steps: what typed data are. -/
section
set_option maxHeartbeats 4000000
set_option linter.unusedVariables false
set_option linter.unusedSimpArgs false
namespace Go.Proofs.W
open Go Vm Go.Proofs.Zs07

theorem typedA_agg {t : TypeId} {ts : List TypeId} {ds : List D} (ha : aggT Tryd.prog t = true) (h : TypedA Tryd.prog (t :: ts) ds) : ∃ cs r, ds = .agg cs :: r ∧ Typed Tryd.prog t cs ∧ TypedA Tryd.prog ts r := by
  cases h with
  | agg _ _ cs ds _ h hr => exact ⟨cs, ds, rfl, h, hr⟩
  | one _ _ d ds ha' => rw [ha] at ha'; cases ha'
theorem ftDfa : fieldTs Tryd.prog 25 = some [22, 23] := by kernel_rfl
theorem aggRow : aggT Tryd.prog 49 = true := by kernel_rfl
theorem row_of_typed : ∀ (n : Nat) {ts : List TypeId} {cs : List D}, ts = List.replicate n 3 → TypedF Tryd.prog ts cs → ∃ r : List Int, cs = r.map (.int .i64) ∧ r.length = n
  | 0, ts, cs, e, h => by
    subst e
    cases typedF_nil h
    exact ⟨[], rfl, rfl⟩
  | n + 1, ts, cs, e, h => by
    subst e
    obtain ⟨x, es, rfl, h2⟩ := typedF_int un3 h
    obtain ⟨r, rfl, hr⟩ := row_of_typed n rfl h2
    exact ⟨x :: r, rfl, by simp [hr]⟩
theorem rows_of_typed {xs : List D} (h : TypedE Tryd.prog 49 xs) : ∃ l : List (List Int), xs = l.map rowD ∧ ∀ r ∈ l, r.length = 16 :=
  typedE_aggI aggRow h rowD (fun r => r.length = 16) fun cs _ hc => by
    cases hc with
    | array _ e n ds hu hf =>
      have h1 := un49
      rw [h1] at hu
      cases hu
      obtain ⟨r, rfl, hr⟩ := row_of_typed 16 rfl hf
      exact ⟨r, rfl, hr⟩
    | bool _ b h => rw [un49] at h; cases h
    | int _ k1 n h hn => rw [un49] at h; cases h
    | str _ s h hs => rw [un49] at h; cases h
    | slice _ e xs h hl hx => rw [un49] at h; cases h
    | struct _ fs ds h hf => rw [un49] at h; cases h
theorem dfa_of_typed {cs : List D} (h : Typed Tryd.prog 25 cs) : ∃ d : Dfa, D.agg cs = dfaD d ∧ tyM d ∧ d.rule.length ≤ maxLen := by
  have hf0 := typed_fields ftDfa h
  obtain ⟨a, b, rfl, ha, hf1⟩ := typedF_cons hf0
  obtain ⟨x1, rfl, -, h1⟩ := typed_slice un22 ha
  obtain ⟨a, b, rfl, ha, hf2⟩ := typedF_cons hf1
  obtain ⟨x2, rfl, hl, h2⟩ := typed_slice un23 ha
  cases typedF_nil hf2
  obtain ⟨l1, rfl, hr⟩ := rows_of_typed h1
  obtain ⟨l2, rfl⟩ := typedE_ints un3 (by kernel_rfl) h2
  exact ⟨⟨l1, l2⟩, rfl, hr, by simpa using hl⟩
end Go.Proofs.W
end
