/- Texts that stand behind this claim, one after the other. -/
import Derived.Test.YtcacifbfoifojaaM5
/- Expressions: whether they may be, in the document's words and in the program's. -/
section
set_option maxHeartbeats 4000000
set_option linter.unusedVariables false
set_option linter.unusedSimpArgs false
namespace Go.Proofs.W
open Go Vm Go.Proofs.Zs06

def rightR (r : Rx) : Bool := decide (depth r ≤ 12) && decide (nodesR r ≤ 100) && shapesR r
theorem right_ok (r : Rx) (hr : okR r) : PureF Try.prog A 29 [rxD r] (.bool (rightR r)) := by
  have hd := deep_depth 12 r
  have hdeep := deep_ok 12 (by omega) r hr
  have hst := strip_rx r
  have hst1 := strip1 hst
  have hst2 := strip2 hst (strip_int (k := .i64) (n := 12))
  have hn := fun h => nodes_ok 12 r hr h (by omega)
  have hs := shapes_ok (depth r) r hr (Nat.le_refl _)
  unfold rightR
  have c1 := rx_cells r
  have c2 := rx_aggQ r
  have c3 := rx_noTup r
  generalize rxD r = d at *
  refine evF_inB (n := 15) (rs := [.tmp 2]) Try.func29 rfl rfl rfl rfl rfl rfl ?_
  repeat' (first | refine wpB_seq ?_ | refine wpB_regionL rfl ?_ | refine wpB_block ?_ | refine wpB_skip ?_ | refine wpB_exit ?_ | refine wpB_ret ?_ | simp (maxSteps := 1000000) (dsimp := false) (disch := omega) only [go_sem, simprocAttr, *])
  refine evB_plain bo40 rfl rfl hst2 (by simpa using hdeep) ?_
  by_cases h12 : depth r ≤ 12
  · rw [show deepR 12 r = depth r by omega]
    repeat' (first | refine wpB_seq ?_ | refine wpB_regionL rfl ?_ | refine wpB_block ?_ | refine wpB_skip ?_ | refine wpB_exit ?_ | refine wpB_ret ?_ | simp (maxSteps := 1000000) (dsimp := false) (disch := omega) only [go_sem, simprocAttr, *])
    refine evB_plain bo30 rfl rfl hst1 (hn h12) ?_
    by_cases h100 : nodesR r ≤ 100
    · repeat' (first | refine wpB_seq ?_ | refine wpB_regionL rfl ?_ | refine wpB_block ?_ | refine wpB_skip ?_ | refine wpB_exit ?_ | refine wpB_ret ?_ | simp (maxSteps := 1000000) (dsimp := false) (disch := omega) only [go_sem, simprocAttr, *])
      refine evB_plain bo41 rfl rfl hst1 hs ?_
      repeat' (first | refine wpB_seq ?_ | refine wpB_regionL rfl ?_ | refine wpB_block ?_ | refine wpB_skip ?_ | refine wpB_exit ?_ | refine wpB_ret ?_ | simp (maxSteps := 1000000) (dsimp := false) (disch := omega) only [go_sem, simprocAttr, *])
      try simp [h12, h100]
    · repeat' (first | refine wpB_seq ?_ | refine wpB_regionL rfl ?_ | refine wpB_block ?_ | refine wpB_skip ?_ | refine wpB_exit ?_ | refine wpB_ret ?_ | simp (maxSteps := 1000000) (dsimp := false) (disch := omega) only [go_sem, simprocAttr, *])
      try simp [h100]
  · rw [show deepR 12 r = 13 by omega]
    repeat' (first | refine wpB_seq ?_ | refine wpB_regionL rfl ?_ | refine wpB_block ?_ | refine wpB_skip ?_ | refine wpB_exit ?_ | refine wpB_ret ?_ | simp (maxSteps := 1000000) (dsimp := false) (disch := omega) only [go_sem, simprocAttr, *])
    try simp [h12]

theorem shape_ok (r : Rx) (hr : okR r) : PureF Try.prog A 45 [rxD r] (.bool (shape1 r.k r.s r.kids.length)) := by
  obtain ⟨k, s, l⟩ := r
  obtain ⟨hk0, hk1, hs0, hs1, hlen, hok⟩ := hr
  simp only [Rx.k, Rx.s, Rx.kids]
  refine evF_inB (n := 51) (rs := [.tmp 2]) Try.func45 rfl rfl rfl rfl rfl rfl ?_
  by_cases h0 : k = 0
  · subst h0
    by_cases hs : s = 0 <;> by_cases hl : l.length = 0
    · repeat' (first | refine wpB_seq ?_ | refine wpB_regionL rfl ?_ | refine wpB_block ?_ | refine wpB_skip ?_ | refine wpB_exit ?_ | refine wpB_ret ?_ | simp (maxSteps := 1000000) (dsimp := false) (disch := omega) only [go_sem, simprocAttr, *])
      refine wpB_cond (by simp (maxSteps := 1000000) (dsimp := false) (disch := omega) only [go_sem, simprocAttr, *]; exact rfl) (fun hb => ?_) (fun hb => ?_) <;> try simp (maxSteps := 1000000) (dsimp := false) (disch := omega) only [go_sem, simprocAttr, decide_eq_true_eq, decide_eq_false_iff_not, Bool.not_eq_true, Bool.not_eq_false, Int.not_lt, Int.not_le] at hb
      repeat' (first | refine wpB_seq ?_ | refine wpB_regionL rfl ?_ | refine wpB_block ?_ | refine wpB_skip ?_ | refine wpB_exit ?_ | refine wpB_ret ?_ | simp (maxSteps := 1000000) (dsimp := false) (disch := omega) only [go_sem, simprocAttr, *])
      try simp (maxSteps := 1000000) (dsimp := false) (disch := omega) only [go_sem, simprocAttr, *, shape1, beqN_true, beqN_false, eqZ_false, or_false1]
    · repeat' (first | refine wpB_seq ?_ | refine wpB_regionL rfl ?_ | refine wpB_block ?_ | refine wpB_skip ?_ | refine wpB_exit ?_ | refine wpB_ret ?_ | simp (maxSteps := 1000000) (dsimp := false) (disch := omega) only [go_sem, simprocAttr, *])
      refine wpB_cond (by simp (maxSteps := 1000000) (dsimp := false) (disch := omega) only [go_sem, simprocAttr, *]; exact rfl) (fun hb => ?_) (fun hb => ?_) <;> try simp (maxSteps := 1000000) (dsimp := false) (disch := omega) only [go_sem, simprocAttr, decide_eq_true_eq, decide_eq_false_iff_not, Bool.not_eq_true, Bool.not_eq_false, Int.not_lt, Int.not_le] at hb
      repeat' (first | refine wpB_seq ?_ | refine wpB_regionL rfl ?_ | refine wpB_block ?_ | refine wpB_skip ?_ | refine wpB_exit ?_ | refine wpB_ret ?_ | simp (maxSteps := 1000000) (dsimp := false) (disch := omega) only [go_sem, simprocAttr, *])
      try simp (maxSteps := 1000000) (dsimp := false) (disch := omega) only [go_sem, simprocAttr, *, shape1, beqN_true, beqN_false, eqZ_false, or_false1]
    · repeat' (first | refine wpB_seq ?_ | refine wpB_regionL rfl ?_ | refine wpB_block ?_ | refine wpB_skip ?_ | refine wpB_exit ?_ | refine wpB_ret ?_ | simp (maxSteps := 1000000) (dsimp := false) (disch := omega) only [go_sem, simprocAttr, *])
      refine wpB_cond (by simp (maxSteps := 1000000) (dsimp := false) (disch := omega) only [go_sem, simprocAttr, *]; exact rfl) (fun hb => ?_) (fun hb => ?_) <;> try simp (maxSteps := 1000000) (dsimp := false) (disch := omega) only [go_sem, simprocAttr, decide_eq_true_eq, decide_eq_false_iff_not, Bool.not_eq_true, Bool.not_eq_false, Int.not_lt, Int.not_le] at hb
      repeat' (first | refine wpB_seq ?_ | refine wpB_regionL rfl ?_ | refine wpB_block ?_ | refine wpB_skip ?_ | refine wpB_exit ?_ | refine wpB_ret ?_ | simp (maxSteps := 1000000) (dsimp := false) (disch := omega) only [go_sem, simprocAttr, *])
      try simp (maxSteps := 1000000) (dsimp := false) (disch := omega) only [go_sem, simprocAttr, *, shape1, beqN_true, beqN_false, eqZ_false, or_false1]
    · repeat' (first | refine wpB_seq ?_ | refine wpB_regionL rfl ?_ | refine wpB_block ?_ | refine wpB_skip ?_ | refine wpB_exit ?_ | refine wpB_ret ?_ | simp (maxSteps := 1000000) (dsimp := false) (disch := omega) only [go_sem, simprocAttr, *])
      refine wpB_cond (by simp (maxSteps := 1000000) (dsimp := false) (disch := omega) only [go_sem, simprocAttr, *]; exact rfl) (fun hb => ?_) (fun hb => ?_) <;> try simp (maxSteps := 1000000) (dsimp := false) (disch := omega) only [go_sem, simprocAttr, decide_eq_true_eq, decide_eq_false_iff_not, Bool.not_eq_true, Bool.not_eq_false, Int.not_lt, Int.not_le] at hb
      repeat' (first | refine wpB_seq ?_ | refine wpB_regionL rfl ?_ | refine wpB_block ?_ | refine wpB_skip ?_ | refine wpB_exit ?_ | refine wpB_ret ?_ | simp (maxSteps := 1000000) (dsimp := false) (disch := omega) only [go_sem, simprocAttr, *])
      try simp (maxSteps := 1000000) (dsimp := false) (disch := omega) only [go_sem, simprocAttr, *, shape1, beqN_true, beqN_false, eqZ_false, or_false1]
  by_cases h1 : k = 1
  · subst h1
    by_cases hs : s = 0 <;> by_cases hl : l.length = 0
    · repeat' (first | refine wpB_seq ?_ | refine wpB_regionL rfl ?_ | refine wpB_block ?_ | refine wpB_skip ?_ | refine wpB_exit ?_ | refine wpB_ret ?_ | simp (maxSteps := 1000000) (dsimp := false) (disch := omega) only [go_sem, simprocAttr, *])
      refine wpB_cond (by simp (maxSteps := 1000000) (dsimp := false) (disch := omega) only [go_sem, simprocAttr, *]; exact rfl) (fun hb => ?_) (fun hb => ?_) <;> try simp (maxSteps := 1000000) (dsimp := false) (disch := omega) only [go_sem, simprocAttr, decide_eq_true_eq, decide_eq_false_iff_not, Bool.not_eq_true, Bool.not_eq_false, Int.not_lt, Int.not_le] at hb
      repeat' (first | refine wpB_seq ?_ | refine wpB_regionL rfl ?_ | refine wpB_block ?_ | refine wpB_skip ?_ | refine wpB_exit ?_ | refine wpB_ret ?_ | simp (maxSteps := 1000000) (dsimp := false) (disch := omega) only [go_sem, simprocAttr, *])
      refine wpB_cond (by simp (maxSteps := 1000000) (dsimp := false) (disch := omega) only [go_sem, simprocAttr, *]; exact rfl) (fun hb => ?_) (fun hb => ?_) <;> try simp (maxSteps := 1000000) (dsimp := false) (disch := omega) only [go_sem, simprocAttr, decide_eq_true_eq, decide_eq_false_iff_not, Bool.not_eq_true, Bool.not_eq_false, Int.not_lt, Int.not_le] at hb
      repeat' (first | refine wpB_seq ?_ | refine wpB_regionL rfl ?_ | refine wpB_block ?_ | refine wpB_skip ?_ | refine wpB_exit ?_ | refine wpB_ret ?_ | simp (maxSteps := 1000000) (dsimp := false) (disch := omega) only [go_sem, simprocAttr, *])
      try simp (maxSteps := 1000000) (dsimp := false) (disch := omega) only [go_sem, simprocAttr, *, shape1, beqN_true, beqN_false, eqZ_false, or_false1]
    · repeat' (first | refine wpB_seq ?_ | refine wpB_regionL rfl ?_ | refine wpB_block ?_ | refine wpB_skip ?_ | refine wpB_exit ?_ | refine wpB_ret ?_ | simp (maxSteps := 1000000) (dsimp := false) (disch := omega) only [go_sem, simprocAttr, *])
      refine wpB_cond (by simp (maxSteps := 1000000) (dsimp := false) (disch := omega) only [go_sem, simprocAttr, *]; exact rfl) (fun hb => ?_) (fun hb => ?_) <;> try simp (maxSteps := 1000000) (dsimp := false) (disch := omega) only [go_sem, simprocAttr, decide_eq_true_eq, decide_eq_false_iff_not, Bool.not_eq_true, Bool.not_eq_false, Int.not_lt, Int.not_le] at hb
      repeat' (first | refine wpB_seq ?_ | refine wpB_regionL rfl ?_ | refine wpB_block ?_ | refine wpB_skip ?_ | refine wpB_exit ?_ | refine wpB_ret ?_ | simp (maxSteps := 1000000) (dsimp := false) (disch := omega) only [go_sem, simprocAttr, *])
      refine wpB_cond (by simp (maxSteps := 1000000) (dsimp := false) (disch := omega) only [go_sem, simprocAttr, *]; exact rfl) (fun hb => ?_) (fun hb => ?_) <;> try simp (maxSteps := 1000000) (dsimp := false) (disch := omega) only [go_sem, simprocAttr, decide_eq_true_eq, decide_eq_false_iff_not, Bool.not_eq_true, Bool.not_eq_false, Int.not_lt, Int.not_le] at hb
      repeat' (first | refine wpB_seq ?_ | refine wpB_regionL rfl ?_ | refine wpB_block ?_ | refine wpB_skip ?_ | refine wpB_exit ?_ | refine wpB_ret ?_ | simp (maxSteps := 1000000) (dsimp := false) (disch := omega) only [go_sem, simprocAttr, *])
      try simp (maxSteps := 1000000) (dsimp := false) (disch := omega) only [go_sem, simprocAttr, *, shape1, beqN_true, beqN_false, eqZ_false, or_false1]
    · repeat' (first | refine wpB_seq ?_ | refine wpB_regionL rfl ?_ | refine wpB_block ?_ | refine wpB_skip ?_ | refine wpB_exit ?_ | refine wpB_ret ?_ | simp (maxSteps := 1000000) (dsimp := false) (disch := omega) only [go_sem, simprocAttr, *])
      refine wpB_cond (by simp (maxSteps := 1000000) (dsimp := false) (disch := omega) only [go_sem, simprocAttr, *]; exact rfl) (fun hb => ?_) (fun hb => ?_) <;> try simp (maxSteps := 1000000) (dsimp := false) (disch := omega) only [go_sem, simprocAttr, decide_eq_true_eq, decide_eq_false_iff_not, Bool.not_eq_true, Bool.not_eq_false, Int.not_lt, Int.not_le] at hb
      repeat' (first | refine wpB_seq ?_ | refine wpB_regionL rfl ?_ | refine wpB_block ?_ | refine wpB_skip ?_ | refine wpB_exit ?_ | refine wpB_ret ?_ | simp (maxSteps := 1000000) (dsimp := false) (disch := omega) only [go_sem, simprocAttr, *])
      refine wpB_cond (by simp (maxSteps := 1000000) (dsimp := false) (disch := omega) only [go_sem, simprocAttr, *]; exact rfl) (fun hb => ?_) (fun hb => ?_) <;> try simp (maxSteps := 1000000) (dsimp := false) (disch := omega) only [go_sem, simprocAttr, decide_eq_true_eq, decide_eq_false_iff_not, Bool.not_eq_true, Bool.not_eq_false, Int.not_lt, Int.not_le] at hb
      repeat' (first | refine wpB_seq ?_ | refine wpB_regionL rfl ?_ | refine wpB_block ?_ | refine wpB_skip ?_ | refine wpB_exit ?_ | refine wpB_ret ?_ | simp (maxSteps := 1000000) (dsimp := false) (disch := omega) only [go_sem, simprocAttr, *])
      try simp (maxSteps := 1000000) (dsimp := false) (disch := omega) only [go_sem, simprocAttr, *, shape1, beqN_true, beqN_false, eqZ_false, or_false1]
    · repeat' (first | refine wpB_seq ?_ | refine wpB_regionL rfl ?_ | refine wpB_block ?_ | refine wpB_skip ?_ | refine wpB_exit ?_ | refine wpB_ret ?_ | simp (maxSteps := 1000000) (dsimp := false) (disch := omega) only [go_sem, simprocAttr, *])
      refine wpB_cond (by simp (maxSteps := 1000000) (dsimp := false) (disch := omega) only [go_sem, simprocAttr, *]; exact rfl) (fun hb => ?_) (fun hb => ?_) <;> try simp (maxSteps := 1000000) (dsimp := false) (disch := omega) only [go_sem, simprocAttr, decide_eq_true_eq, decide_eq_false_iff_not, Bool.not_eq_true, Bool.not_eq_false, Int.not_lt, Int.not_le] at hb
      repeat' (first | refine wpB_seq ?_ | refine wpB_regionL rfl ?_ | refine wpB_block ?_ | refine wpB_skip ?_ | refine wpB_exit ?_ | refine wpB_ret ?_ | simp (maxSteps := 1000000) (dsimp := false) (disch := omega) only [go_sem, simprocAttr, *])
      refine wpB_cond (by simp (maxSteps := 1000000) (dsimp := false) (disch := omega) only [go_sem, simprocAttr, *]; exact rfl) (fun hb => ?_) (fun hb => ?_) <;> try simp (maxSteps := 1000000) (dsimp := false) (disch := omega) only [go_sem, simprocAttr, decide_eq_true_eq, decide_eq_false_iff_not, Bool.not_eq_true, Bool.not_eq_false, Int.not_lt, Int.not_le] at hb
      repeat' (first | refine wpB_seq ?_ | refine wpB_regionL rfl ?_ | refine wpB_block ?_ | refine wpB_skip ?_ | refine wpB_exit ?_ | refine wpB_ret ?_ | simp (maxSteps := 1000000) (dsimp := false) (disch := omega) only [go_sem, simprocAttr, *])
      try simp (maxSteps := 1000000) (dsimp := false) (disch := omega) only [go_sem, simprocAttr, *, shape1, beqN_true, beqN_false, eqZ_false, or_false1]
  by_cases h2 : k = 2
  · subst h2
    by_cases hs : s = 0 <;> by_cases hl : 0 < l.length
    · repeat' (first | refine wpB_seq ?_ | refine wpB_regionL rfl ?_ | refine wpB_block ?_ | refine wpB_skip ?_ | refine wpB_exit ?_ | refine wpB_ret ?_ | simp (maxSteps := 1000000) (dsimp := false) (disch := omega) only [go_sem, simprocAttr, *])
      refine wpB_cond (by simp (maxSteps := 1000000) (dsimp := false) (disch := omega) only [go_sem, simprocAttr, *]; exact rfl) (fun hb => ?_) (fun hb => ?_) <;> try simp (maxSteps := 1000000) (dsimp := false) (disch := omega) only [go_sem, simprocAttr, decide_eq_true_eq, decide_eq_false_iff_not, Bool.not_eq_true, Bool.not_eq_false, Int.not_lt, Int.not_le] at hb
      repeat' (first | refine wpB_seq ?_ | refine wpB_regionL rfl ?_ | refine wpB_block ?_ | refine wpB_skip ?_ | refine wpB_exit ?_ | refine wpB_ret ?_ | simp (maxSteps := 1000000) (dsimp := false) (disch := omega) only [go_sem, simprocAttr, *])
      refine wpB_cond (by simp (maxSteps := 1000000) (dsimp := false) (disch := omega) only [go_sem, simprocAttr, *]; exact rfl) (fun hb => ?_) (fun hb => ?_) <;> try simp (maxSteps := 1000000) (dsimp := false) (disch := omega) only [go_sem, simprocAttr, decide_eq_true_eq, decide_eq_false_iff_not, Bool.not_eq_true, Bool.not_eq_false, Int.not_lt, Int.not_le] at hb
      repeat' (first | refine wpB_seq ?_ | refine wpB_regionL rfl ?_ | refine wpB_block ?_ | refine wpB_skip ?_ | refine wpB_exit ?_ | refine wpB_ret ?_ | simp (maxSteps := 1000000) (dsimp := false) (disch := omega) only [go_sem, simprocAttr, *])
      refine wpB_cond (by simp (maxSteps := 1000000) (dsimp := false) (disch := omega) only [go_sem, simprocAttr, *]; exact rfl) (fun hb => ?_) (fun hb => ?_) <;> try simp (maxSteps := 1000000) (dsimp := false) (disch := omega) only [go_sem, simprocAttr, decide_eq_true_eq, decide_eq_false_iff_not, Bool.not_eq_true, Bool.not_eq_false, Int.not_lt, Int.not_le] at hb
      repeat' (first | refine wpB_seq ?_ | refine wpB_regionL rfl ?_ | refine wpB_block ?_ | refine wpB_skip ?_ | refine wpB_exit ?_ | refine wpB_ret ?_ | simp (maxSteps := 1000000) (dsimp := false) (disch := omega) only [go_sem, simprocAttr, *])
      refine wpB_cond (by simp (maxSteps := 1000000) (dsimp := false) (disch := omega) only [go_sem, simprocAttr, *]; exact rfl) (fun hb => ?_) (fun hb => ?_) <;> try simp (maxSteps := 1000000) (dsimp := false) (disch := omega) only [go_sem, simprocAttr, decide_eq_true_eq, decide_eq_false_iff_not, Bool.not_eq_true, Bool.not_eq_false, Int.not_lt, Int.not_le] at hb
      repeat' (first | refine wpB_seq ?_ | refine wpB_regionL rfl ?_ | refine wpB_block ?_ | refine wpB_skip ?_ | refine wpB_exit ?_ | refine wpB_ret ?_ | simp (maxSteps := 1000000) (dsimp := false) (disch := omega) only [go_sem, simprocAttr, *])
      try simp (maxSteps := 1000000) (dsimp := false) (disch := omega) only [go_sem, simprocAttr, *, shape1, beqN_true, beqN_false, eqZ_false, or_false1]
    · repeat' (first | refine wpB_seq ?_ | refine wpB_regionL rfl ?_ | refine wpB_block ?_ | refine wpB_skip ?_ | refine wpB_exit ?_ | refine wpB_ret ?_ | simp (maxSteps := 1000000) (dsimp := false) (disch := omega) only [go_sem, simprocAttr, *])
      refine wpB_cond (by simp (maxSteps := 1000000) (dsimp := false) (disch := omega) only [go_sem, simprocAttr, *]; exact rfl) (fun hb => ?_) (fun hb => ?_) <;> try simp (maxSteps := 1000000) (dsimp := false) (disch := omega) only [go_sem, simprocAttr, decide_eq_true_eq, decide_eq_false_iff_not, Bool.not_eq_true, Bool.not_eq_false, Int.not_lt, Int.not_le] at hb
      repeat' (first | refine wpB_seq ?_ | refine wpB_regionL rfl ?_ | refine wpB_block ?_ | refine wpB_skip ?_ | refine wpB_exit ?_ | refine wpB_ret ?_ | simp (maxSteps := 1000000) (dsimp := false) (disch := omega) only [go_sem, simprocAttr, *])
      refine wpB_cond (by simp (maxSteps := 1000000) (dsimp := false) (disch := omega) only [go_sem, simprocAttr, *]; exact rfl) (fun hb => ?_) (fun hb => ?_) <;> try simp (maxSteps := 1000000) (dsimp := false) (disch := omega) only [go_sem, simprocAttr, decide_eq_true_eq, decide_eq_false_iff_not, Bool.not_eq_true, Bool.not_eq_false, Int.not_lt, Int.not_le] at hb
      repeat' (first | refine wpB_seq ?_ | refine wpB_regionL rfl ?_ | refine wpB_block ?_ | refine wpB_skip ?_ | refine wpB_exit ?_ | refine wpB_ret ?_ | simp (maxSteps := 1000000) (dsimp := false) (disch := omega) only [go_sem, simprocAttr, *])
      refine wpB_cond (by simp (maxSteps := 1000000) (dsimp := false) (disch := omega) only [go_sem, simprocAttr, *]; exact rfl) (fun hb => ?_) (fun hb => ?_) <;> try simp (maxSteps := 1000000) (dsimp := false) (disch := omega) only [go_sem, simprocAttr, decide_eq_true_eq, decide_eq_false_iff_not, Bool.not_eq_true, Bool.not_eq_false, Int.not_lt, Int.not_le] at hb
      repeat' (first | refine wpB_seq ?_ | refine wpB_regionL rfl ?_ | refine wpB_block ?_ | refine wpB_skip ?_ | refine wpB_exit ?_ | refine wpB_ret ?_ | simp (maxSteps := 1000000) (dsimp := false) (disch := omega) only [go_sem, simprocAttr, *])
      refine wpB_cond (by simp (maxSteps := 1000000) (dsimp := false) (disch := omega) only [go_sem, simprocAttr, *]; exact rfl) (fun hb => ?_) (fun hb => ?_) <;> try simp (maxSteps := 1000000) (dsimp := false) (disch := omega) only [go_sem, simprocAttr, decide_eq_true_eq, decide_eq_false_iff_not, Bool.not_eq_true, Bool.not_eq_false, Int.not_lt, Int.not_le] at hb
      repeat' (first | refine wpB_seq ?_ | refine wpB_regionL rfl ?_ | refine wpB_block ?_ | refine wpB_skip ?_ | refine wpB_exit ?_ | refine wpB_ret ?_ | simp (maxSteps := 1000000) (dsimp := false) (disch := omega) only [go_sem, simprocAttr, *])
      try simp (maxSteps := 1000000) (dsimp := false) (disch := omega) only [go_sem, simprocAttr, *, shape1, beqN_true, beqN_false, eqZ_false, or_false1]
    · repeat' (first | refine wpB_seq ?_ | refine wpB_regionL rfl ?_ | refine wpB_block ?_ | refine wpB_skip ?_ | refine wpB_exit ?_ | refine wpB_ret ?_ | simp (maxSteps := 1000000) (dsimp := false) (disch := omega) only [go_sem, simprocAttr, *])
      refine wpB_cond (by simp (maxSteps := 1000000) (dsimp := false) (disch := omega) only [go_sem, simprocAttr, *]; exact rfl) (fun hb => ?_) (fun hb => ?_) <;> try simp (maxSteps := 1000000) (dsimp := false) (disch := omega) only [go_sem, simprocAttr, decide_eq_true_eq, decide_eq_false_iff_not, Bool.not_eq_true, Bool.not_eq_false, Int.not_lt, Int.not_le] at hb
      repeat' (first | refine wpB_seq ?_ | refine wpB_regionL rfl ?_ | refine wpB_block ?_ | refine wpB_skip ?_ | refine wpB_exit ?_ | refine wpB_ret ?_ | simp (maxSteps := 1000000) (dsimp := false) (disch := omega) only [go_sem, simprocAttr, *])
      refine wpB_cond (by simp (maxSteps := 1000000) (dsimp := false) (disch := omega) only [go_sem, simprocAttr, *]; exact rfl) (fun hb => ?_) (fun hb => ?_) <;> try simp (maxSteps := 1000000) (dsimp := false) (disch := omega) only [go_sem, simprocAttr, decide_eq_true_eq, decide_eq_false_iff_not, Bool.not_eq_true, Bool.not_eq_false, Int.not_lt, Int.not_le] at hb
      repeat' (first | refine wpB_seq ?_ | refine wpB_regionL rfl ?_ | refine wpB_block ?_ | refine wpB_skip ?_ | refine wpB_exit ?_ | refine wpB_ret ?_ | simp (maxSteps := 1000000) (dsimp := false) (disch := omega) only [go_sem, simprocAttr, *])
      refine wpB_cond (by simp (maxSteps := 1000000) (dsimp := false) (disch := omega) only [go_sem, simprocAttr, *]; exact rfl) (fun hb => ?_) (fun hb => ?_) <;> try simp (maxSteps := 1000000) (dsimp := false) (disch := omega) only [go_sem, simprocAttr, decide_eq_true_eq, decide_eq_false_iff_not, Bool.not_eq_true, Bool.not_eq_false, Int.not_lt, Int.not_le] at hb
      repeat' (first | refine wpB_seq ?_ | refine wpB_regionL rfl ?_ | refine wpB_block ?_ | refine wpB_skip ?_ | refine wpB_exit ?_ | refine wpB_ret ?_ | simp (maxSteps := 1000000) (dsimp := false) (disch := omega) only [go_sem, simprocAttr, *])
      refine wpB_cond (by simp (maxSteps := 1000000) (dsimp := false) (disch := omega) only [go_sem, simprocAttr, *]; exact rfl) (fun hb => ?_) (fun hb => ?_) <;> try simp (maxSteps := 1000000) (dsimp := false) (disch := omega) only [go_sem, simprocAttr, decide_eq_true_eq, decide_eq_false_iff_not, Bool.not_eq_true, Bool.not_eq_false, Int.not_lt, Int.not_le] at hb
      repeat' (first | refine wpB_seq ?_ | refine wpB_regionL rfl ?_ | refine wpB_block ?_ | refine wpB_skip ?_ | refine wpB_exit ?_ | refine wpB_ret ?_ | simp (maxSteps := 1000000) (dsimp := false) (disch := omega) only [go_sem, simprocAttr, *])
      try simp (maxSteps := 1000000) (dsimp := false) (disch := omega) only [go_sem, simprocAttr, *, shape1, beqN_true, beqN_false, eqZ_false, or_false1]
    · repeat' (first | refine wpB_seq ?_ | refine wpB_regionL rfl ?_ | refine wpB_block ?_ | refine wpB_skip ?_ | refine wpB_exit ?_ | refine wpB_ret ?_ | simp (maxSteps := 1000000) (dsimp := false) (disch := omega) only [go_sem, simprocAttr, *])
      refine wpB_cond (by simp (maxSteps := 1000000) (dsimp := false) (disch := omega) only [go_sem, simprocAttr, *]; exact rfl) (fun hb => ?_) (fun hb => ?_) <;> try simp (maxSteps := 1000000) (dsimp := false) (disch := omega) only [go_sem, simprocAttr, decide_eq_true_eq, decide_eq_false_iff_not, Bool.not_eq_true, Bool.not_eq_false, Int.not_lt, Int.not_le] at hb
      repeat' (first | refine wpB_seq ?_ | refine wpB_regionL rfl ?_ | refine wpB_block ?_ | refine wpB_skip ?_ | refine wpB_exit ?_ | refine wpB_ret ?_ | simp (maxSteps := 1000000) (dsimp := false) (disch := omega) only [go_sem, simprocAttr, *])
      refine wpB_cond (by simp (maxSteps := 1000000) (dsimp := false) (disch := omega) only [go_sem, simprocAttr, *]; exact rfl) (fun hb => ?_) (fun hb => ?_) <;> try simp (maxSteps := 1000000) (dsimp := false) (disch := omega) only [go_sem, simprocAttr, decide_eq_true_eq, decide_eq_false_iff_not, Bool.not_eq_true, Bool.not_eq_false, Int.not_lt, Int.not_le] at hb
      repeat' (first | refine wpB_seq ?_ | refine wpB_regionL rfl ?_ | refine wpB_block ?_ | refine wpB_skip ?_ | refine wpB_exit ?_ | refine wpB_ret ?_ | simp (maxSteps := 1000000) (dsimp := false) (disch := omega) only [go_sem, simprocAttr, *])
      refine wpB_cond (by simp (maxSteps := 1000000) (dsimp := false) (disch := omega) only [go_sem, simprocAttr, *]; exact rfl) (fun hb => ?_) (fun hb => ?_) <;> try simp (maxSteps := 1000000) (dsimp := false) (disch := omega) only [go_sem, simprocAttr, decide_eq_true_eq, decide_eq_false_iff_not, Bool.not_eq_true, Bool.not_eq_false, Int.not_lt, Int.not_le] at hb
      repeat' (first | refine wpB_seq ?_ | refine wpB_regionL rfl ?_ | refine wpB_block ?_ | refine wpB_skip ?_ | refine wpB_exit ?_ | refine wpB_ret ?_ | simp (maxSteps := 1000000) (dsimp := false) (disch := omega) only [go_sem, simprocAttr, *])
      refine wpB_cond (by simp (maxSteps := 1000000) (dsimp := false) (disch := omega) only [go_sem, simprocAttr, *]; exact rfl) (fun hb => ?_) (fun hb => ?_) <;> try simp (maxSteps := 1000000) (dsimp := false) (disch := omega) only [go_sem, simprocAttr, decide_eq_true_eq, decide_eq_false_iff_not, Bool.not_eq_true, Bool.not_eq_false, Int.not_lt, Int.not_le] at hb
      repeat' (first | refine wpB_seq ?_ | refine wpB_regionL rfl ?_ | refine wpB_block ?_ | refine wpB_skip ?_ | refine wpB_exit ?_ | refine wpB_ret ?_ | simp (maxSteps := 1000000) (dsimp := false) (disch := omega) only [go_sem, simprocAttr, *])
      try simp (maxSteps := 1000000) (dsimp := false) (disch := omega) only [go_sem, simprocAttr, *, shape1, beqN_true, beqN_false, eqZ_false, or_false1]
  by_cases h3 : k = 3
  · subst h3
    by_cases hs : s = 0 <;> by_cases hl : 0 < l.length
    · repeat' (first | refine wpB_seq ?_ | refine wpB_regionL rfl ?_ | refine wpB_block ?_ | refine wpB_skip ?_ | refine wpB_exit ?_ | refine wpB_ret ?_ | simp (maxSteps := 1000000) (dsimp := false) (disch := omega) only [go_sem, simprocAttr, *])
      refine wpB_cond (by simp (maxSteps := 1000000) (dsimp := false) (disch := omega) only [go_sem, simprocAttr, *]; exact rfl) (fun hb => ?_) (fun hb => ?_) <;> try simp (maxSteps := 1000000) (dsimp := false) (disch := omega) only [go_sem, simprocAttr, decide_eq_true_eq, decide_eq_false_iff_not, Bool.not_eq_true, Bool.not_eq_false, Int.not_lt, Int.not_le] at hb
      repeat' (first | refine wpB_seq ?_ | refine wpB_regionL rfl ?_ | refine wpB_block ?_ | refine wpB_skip ?_ | refine wpB_exit ?_ | refine wpB_ret ?_ | simp (maxSteps := 1000000) (dsimp := false) (disch := omega) only [go_sem, simprocAttr, *])
      refine wpB_cond (by simp (maxSteps := 1000000) (dsimp := false) (disch := omega) only [go_sem, simprocAttr, *]; exact rfl) (fun hb => ?_) (fun hb => ?_) <;> try simp (maxSteps := 1000000) (dsimp := false) (disch := omega) only [go_sem, simprocAttr, decide_eq_true_eq, decide_eq_false_iff_not, Bool.not_eq_true, Bool.not_eq_false, Int.not_lt, Int.not_le] at hb
      repeat' (first | refine wpB_seq ?_ | refine wpB_regionL rfl ?_ | refine wpB_block ?_ | refine wpB_skip ?_ | refine wpB_exit ?_ | refine wpB_ret ?_ | simp (maxSteps := 1000000) (dsimp := false) (disch := omega) only [go_sem, simprocAttr, *])
      refine wpB_cond (by simp (maxSteps := 1000000) (dsimp := false) (disch := omega) only [go_sem, simprocAttr, *]; exact rfl) (fun hb => ?_) (fun hb => ?_) <;> try simp (maxSteps := 1000000) (dsimp := false) (disch := omega) only [go_sem, simprocAttr, decide_eq_true_eq, decide_eq_false_iff_not, Bool.not_eq_true, Bool.not_eq_false, Int.not_lt, Int.not_le] at hb
      repeat' (first | refine wpB_seq ?_ | refine wpB_regionL rfl ?_ | refine wpB_block ?_ | refine wpB_skip ?_ | refine wpB_exit ?_ | refine wpB_ret ?_ | simp (maxSteps := 1000000) (dsimp := false) (disch := omega) only [go_sem, simprocAttr, *])
      refine wpB_cond (by simp (maxSteps := 1000000) (dsimp := false) (disch := omega) only [go_sem, simprocAttr, *]; exact rfl) (fun hb => ?_) (fun hb => ?_) <;> try simp (maxSteps := 1000000) (dsimp := false) (disch := omega) only [go_sem, simprocAttr, decide_eq_true_eq, decide_eq_false_iff_not, Bool.not_eq_true, Bool.not_eq_false, Int.not_lt, Int.not_le] at hb
      repeat' (first | refine wpB_seq ?_ | refine wpB_regionL rfl ?_ | refine wpB_block ?_ | refine wpB_skip ?_ | refine wpB_exit ?_ | refine wpB_ret ?_ | simp (maxSteps := 1000000) (dsimp := false) (disch := omega) only [go_sem, simprocAttr, *])
      try simp (maxSteps := 1000000) (dsimp := false) (disch := omega) only [go_sem, simprocAttr, *, shape1, beqN_true, beqN_false, eqZ_false, or_false1]
    · repeat' (first | refine wpB_seq ?_ | refine wpB_regionL rfl ?_ | refine wpB_block ?_ | refine wpB_skip ?_ | refine wpB_exit ?_ | refine wpB_ret ?_ | simp (maxSteps := 1000000) (dsimp := false) (disch := omega) only [go_sem, simprocAttr, *])
      refine wpB_cond (by simp (maxSteps := 1000000) (dsimp := false) (disch := omega) only [go_sem, simprocAttr, *]; exact rfl) (fun hb => ?_) (fun hb => ?_) <;> try simp (maxSteps := 1000000) (dsimp := false) (disch := omega) only [go_sem, simprocAttr, decide_eq_true_eq, decide_eq_false_iff_not, Bool.not_eq_true, Bool.not_eq_false, Int.not_lt, Int.not_le] at hb
      repeat' (first | refine wpB_seq ?_ | refine wpB_regionL rfl ?_ | refine wpB_block ?_ | refine wpB_skip ?_ | refine wpB_exit ?_ | refine wpB_ret ?_ | simp (maxSteps := 1000000) (dsimp := false) (disch := omega) only [go_sem, simprocAttr, *])
      refine wpB_cond (by simp (maxSteps := 1000000) (dsimp := false) (disch := omega) only [go_sem, simprocAttr, *]; exact rfl) (fun hb => ?_) (fun hb => ?_) <;> try simp (maxSteps := 1000000) (dsimp := false) (disch := omega) only [go_sem, simprocAttr, decide_eq_true_eq, decide_eq_false_iff_not, Bool.not_eq_true, Bool.not_eq_false, Int.not_lt, Int.not_le] at hb
      repeat' (first | refine wpB_seq ?_ | refine wpB_regionL rfl ?_ | refine wpB_block ?_ | refine wpB_skip ?_ | refine wpB_exit ?_ | refine wpB_ret ?_ | simp (maxSteps := 1000000) (dsimp := false) (disch := omega) only [go_sem, simprocAttr, *])
      refine wpB_cond (by simp (maxSteps := 1000000) (dsimp := false) (disch := omega) only [go_sem, simprocAttr, *]; exact rfl) (fun hb => ?_) (fun hb => ?_) <;> try simp (maxSteps := 1000000) (dsimp := false) (disch := omega) only [go_sem, simprocAttr, decide_eq_true_eq, decide_eq_false_iff_not, Bool.not_eq_true, Bool.not_eq_false, Int.not_lt, Int.not_le] at hb
      repeat' (first | refine wpB_seq ?_ | refine wpB_regionL rfl ?_ | refine wpB_block ?_ | refine wpB_skip ?_ | refine wpB_exit ?_ | refine wpB_ret ?_ | simp (maxSteps := 1000000) (dsimp := false) (disch := omega) only [go_sem, simprocAttr, *])
      refine wpB_cond (by simp (maxSteps := 1000000) (dsimp := false) (disch := omega) only [go_sem, simprocAttr, *]; exact rfl) (fun hb => ?_) (fun hb => ?_) <;> try simp (maxSteps := 1000000) (dsimp := false) (disch := omega) only [go_sem, simprocAttr, decide_eq_true_eq, decide_eq_false_iff_not, Bool.not_eq_true, Bool.not_eq_false, Int.not_lt, Int.not_le] at hb
      repeat' (first | refine wpB_seq ?_ | refine wpB_regionL rfl ?_ | refine wpB_block ?_ | refine wpB_skip ?_ | refine wpB_exit ?_ | refine wpB_ret ?_ | simp (maxSteps := 1000000) (dsimp := false) (disch := omega) only [go_sem, simprocAttr, *])
      try simp (maxSteps := 1000000) (dsimp := false) (disch := omega) only [go_sem, simprocAttr, *, shape1, beqN_true, beqN_false, eqZ_false, or_false1]
    · repeat' (first | refine wpB_seq ?_ | refine wpB_regionL rfl ?_ | refine wpB_block ?_ | refine wpB_skip ?_ | refine wpB_exit ?_ | refine wpB_ret ?_ | simp (maxSteps := 1000000) (dsimp := false) (disch := omega) only [go_sem, simprocAttr, *])
      refine wpB_cond (by simp (maxSteps := 1000000) (dsimp := false) (disch := omega) only [go_sem, simprocAttr, *]; exact rfl) (fun hb => ?_) (fun hb => ?_) <;> try simp (maxSteps := 1000000) (dsimp := false) (disch := omega) only [go_sem, simprocAttr, decide_eq_true_eq, decide_eq_false_iff_not, Bool.not_eq_true, Bool.not_eq_false, Int.not_lt, Int.not_le] at hb
      repeat' (first | refine wpB_seq ?_ | refine wpB_regionL rfl ?_ | refine wpB_block ?_ | refine wpB_skip ?_ | refine wpB_exit ?_ | refine wpB_ret ?_ | simp (maxSteps := 1000000) (dsimp := false) (disch := omega) only [go_sem, simprocAttr, *])
      refine wpB_cond (by simp (maxSteps := 1000000) (dsimp := false) (disch := omega) only [go_sem, simprocAttr, *]; exact rfl) (fun hb => ?_) (fun hb => ?_) <;> try simp (maxSteps := 1000000) (dsimp := false) (disch := omega) only [go_sem, simprocAttr, decide_eq_true_eq, decide_eq_false_iff_not, Bool.not_eq_true, Bool.not_eq_false, Int.not_lt, Int.not_le] at hb
      repeat' (first | refine wpB_seq ?_ | refine wpB_regionL rfl ?_ | refine wpB_block ?_ | refine wpB_skip ?_ | refine wpB_exit ?_ | refine wpB_ret ?_ | simp (maxSteps := 1000000) (dsimp := false) (disch := omega) only [go_sem, simprocAttr, *])
      refine wpB_cond (by simp (maxSteps := 1000000) (dsimp := false) (disch := omega) only [go_sem, simprocAttr, *]; exact rfl) (fun hb => ?_) (fun hb => ?_) <;> try simp (maxSteps := 1000000) (dsimp := false) (disch := omega) only [go_sem, simprocAttr, decide_eq_true_eq, decide_eq_false_iff_not, Bool.not_eq_true, Bool.not_eq_false, Int.not_lt, Int.not_le] at hb
      repeat' (first | refine wpB_seq ?_ | refine wpB_regionL rfl ?_ | refine wpB_block ?_ | refine wpB_skip ?_ | refine wpB_exit ?_ | refine wpB_ret ?_ | simp (maxSteps := 1000000) (dsimp := false) (disch := omega) only [go_sem, simprocAttr, *])
      refine wpB_cond (by simp (maxSteps := 1000000) (dsimp := false) (disch := omega) only [go_sem, simprocAttr, *]; exact rfl) (fun hb => ?_) (fun hb => ?_) <;> try simp (maxSteps := 1000000) (dsimp := false) (disch := omega) only [go_sem, simprocAttr, decide_eq_true_eq, decide_eq_false_iff_not, Bool.not_eq_true, Bool.not_eq_false, Int.not_lt, Int.not_le] at hb
      repeat' (first | refine wpB_seq ?_ | refine wpB_regionL rfl ?_ | refine wpB_block ?_ | refine wpB_skip ?_ | refine wpB_exit ?_ | refine wpB_ret ?_ | simp (maxSteps := 1000000) (dsimp := false) (disch := omega) only [go_sem, simprocAttr, *])
      try simp (maxSteps := 1000000) (dsimp := false) (disch := omega) only [go_sem, simprocAttr, *, shape1, beqN_true, beqN_false, eqZ_false, or_false1]
    · repeat' (first | refine wpB_seq ?_ | refine wpB_regionL rfl ?_ | refine wpB_block ?_ | refine wpB_skip ?_ | refine wpB_exit ?_ | refine wpB_ret ?_ | simp (maxSteps := 1000000) (dsimp := false) (disch := omega) only [go_sem, simprocAttr, *])
      refine wpB_cond (by simp (maxSteps := 1000000) (dsimp := false) (disch := omega) only [go_sem, simprocAttr, *]; exact rfl) (fun hb => ?_) (fun hb => ?_) <;> try simp (maxSteps := 1000000) (dsimp := false) (disch := omega) only [go_sem, simprocAttr, decide_eq_true_eq, decide_eq_false_iff_not, Bool.not_eq_true, Bool.not_eq_false, Int.not_lt, Int.not_le] at hb
      repeat' (first | refine wpB_seq ?_ | refine wpB_regionL rfl ?_ | refine wpB_block ?_ | refine wpB_skip ?_ | refine wpB_exit ?_ | refine wpB_ret ?_ | simp (maxSteps := 1000000) (dsimp := false) (disch := omega) only [go_sem, simprocAttr, *])
      refine wpB_cond (by simp (maxSteps := 1000000) (dsimp := false) (disch := omega) only [go_sem, simprocAttr, *]; exact rfl) (fun hb => ?_) (fun hb => ?_) <;> try simp (maxSteps := 1000000) (dsimp := false) (disch := omega) only [go_sem, simprocAttr, decide_eq_true_eq, decide_eq_false_iff_not, Bool.not_eq_true, Bool.not_eq_false, Int.not_lt, Int.not_le] at hb
      repeat' (first | refine wpB_seq ?_ | refine wpB_regionL rfl ?_ | refine wpB_block ?_ | refine wpB_skip ?_ | refine wpB_exit ?_ | refine wpB_ret ?_ | simp (maxSteps := 1000000) (dsimp := false) (disch := omega) only [go_sem, simprocAttr, *])
      refine wpB_cond (by simp (maxSteps := 1000000) (dsimp := false) (disch := omega) only [go_sem, simprocAttr, *]; exact rfl) (fun hb => ?_) (fun hb => ?_) <;> try simp (maxSteps := 1000000) (dsimp := false) (disch := omega) only [go_sem, simprocAttr, decide_eq_true_eq, decide_eq_false_iff_not, Bool.not_eq_true, Bool.not_eq_false, Int.not_lt, Int.not_le] at hb
      repeat' (first | refine wpB_seq ?_ | refine wpB_regionL rfl ?_ | refine wpB_block ?_ | refine wpB_skip ?_ | refine wpB_exit ?_ | refine wpB_ret ?_ | simp (maxSteps := 1000000) (dsimp := false) (disch := omega) only [go_sem, simprocAttr, *])
      refine wpB_cond (by simp (maxSteps := 1000000) (dsimp := false) (disch := omega) only [go_sem, simprocAttr, *]; exact rfl) (fun hb => ?_) (fun hb => ?_) <;> try simp (maxSteps := 1000000) (dsimp := false) (disch := omega) only [go_sem, simprocAttr, decide_eq_true_eq, decide_eq_false_iff_not, Bool.not_eq_true, Bool.not_eq_false, Int.not_lt, Int.not_le] at hb
      repeat' (first | refine wpB_seq ?_ | refine wpB_regionL rfl ?_ | refine wpB_block ?_ | refine wpB_skip ?_ | refine wpB_exit ?_ | refine wpB_ret ?_ | simp (maxSteps := 1000000) (dsimp := false) (disch := omega) only [go_sem, simprocAttr, *])
      try simp (maxSteps := 1000000) (dsimp := false) (disch := omega) only [go_sem, simprocAttr, *, shape1, beqN_true, beqN_false, eqZ_false, or_false1]
  by_cases h4 : k = 4
  · subst h4
    by_cases hs : s = 0 <;> by_cases hl : l.length = 1
    · repeat' (first | refine wpB_seq ?_ | refine wpB_regionL rfl ?_ | refine wpB_block ?_ | refine wpB_skip ?_ | refine wpB_exit ?_ | refine wpB_ret ?_ | simp (maxSteps := 1000000) (dsimp := false) (disch := omega) only [go_sem, simprocAttr, *])
      refine wpB_cond (by simp (maxSteps := 1000000) (dsimp := false) (disch := omega) only [go_sem, simprocAttr, *]; exact rfl) (fun hb => ?_) (fun hb => ?_) <;> try simp (maxSteps := 1000000) (dsimp := false) (disch := omega) only [go_sem, simprocAttr, decide_eq_true_eq, decide_eq_false_iff_not, Bool.not_eq_true, Bool.not_eq_false, Int.not_lt, Int.not_le] at hb
      repeat' (first | refine wpB_seq ?_ | refine wpB_regionL rfl ?_ | refine wpB_block ?_ | refine wpB_skip ?_ | refine wpB_exit ?_ | refine wpB_ret ?_ | simp (maxSteps := 1000000) (dsimp := false) (disch := omega) only [go_sem, simprocAttr, *])
      refine wpB_cond (by simp (maxSteps := 1000000) (dsimp := false) (disch := omega) only [go_sem, simprocAttr, *]; exact rfl) (fun hb => ?_) (fun hb => ?_) <;> try simp (maxSteps := 1000000) (dsimp := false) (disch := omega) only [go_sem, simprocAttr, decide_eq_true_eq, decide_eq_false_iff_not, Bool.not_eq_true, Bool.not_eq_false, Int.not_lt, Int.not_le] at hb
      repeat' (first | refine wpB_seq ?_ | refine wpB_regionL rfl ?_ | refine wpB_block ?_ | refine wpB_skip ?_ | refine wpB_exit ?_ | refine wpB_ret ?_ | simp (maxSteps := 1000000) (dsimp := false) (disch := omega) only [go_sem, simprocAttr, *])
      refine wpB_cond (by simp (maxSteps := 1000000) (dsimp := false) (disch := omega) only [go_sem, simprocAttr, *]; exact rfl) (fun hb => ?_) (fun hb => ?_) <;> try simp (maxSteps := 1000000) (dsimp := false) (disch := omega) only [go_sem, simprocAttr, decide_eq_true_eq, decide_eq_false_iff_not, Bool.not_eq_true, Bool.not_eq_false, Int.not_lt, Int.not_le] at hb
      repeat' (first | refine wpB_seq ?_ | refine wpB_regionL rfl ?_ | refine wpB_block ?_ | refine wpB_skip ?_ | refine wpB_exit ?_ | refine wpB_ret ?_ | simp (maxSteps := 1000000) (dsimp := false) (disch := omega) only [go_sem, simprocAttr, *])
      refine wpB_cond (by simp (maxSteps := 1000000) (dsimp := false) (disch := omega) only [go_sem, simprocAttr, *]; exact rfl) (fun hb => ?_) (fun hb => ?_) <;> try simp (maxSteps := 1000000) (dsimp := false) (disch := omega) only [go_sem, simprocAttr, decide_eq_true_eq, decide_eq_false_iff_not, Bool.not_eq_true, Bool.not_eq_false, Int.not_lt, Int.not_le] at hb
      repeat' (first | refine wpB_seq ?_ | refine wpB_regionL rfl ?_ | refine wpB_block ?_ | refine wpB_skip ?_ | refine wpB_exit ?_ | refine wpB_ret ?_ | simp (maxSteps := 1000000) (dsimp := false) (disch := omega) only [go_sem, simprocAttr, *])
      refine wpB_cond (by simp (maxSteps := 1000000) (dsimp := false) (disch := omega) only [go_sem, simprocAttr, *]; exact rfl) (fun hb => ?_) (fun hb => ?_) <;> try simp (maxSteps := 1000000) (dsimp := false) (disch := omega) only [go_sem, simprocAttr, decide_eq_true_eq, decide_eq_false_iff_not, Bool.not_eq_true, Bool.not_eq_false, Int.not_lt, Int.not_le] at hb
      repeat' (first | refine wpB_seq ?_ | refine wpB_regionL rfl ?_ | refine wpB_block ?_ | refine wpB_skip ?_ | refine wpB_exit ?_ | refine wpB_ret ?_ | simp (maxSteps := 1000000) (dsimp := false) (disch := omega) only [go_sem, simprocAttr, *])
      refine wpB_cond (by simp (maxSteps := 1000000) (dsimp := false) (disch := omega) only [go_sem, simprocAttr, *]; exact rfl) (fun hb => ?_) (fun hb => ?_) <;> try simp (maxSteps := 1000000) (dsimp := false) (disch := omega) only [go_sem, simprocAttr, decide_eq_true_eq, decide_eq_false_iff_not, Bool.not_eq_true, Bool.not_eq_false, Int.not_lt, Int.not_le] at hb
      repeat' (first | refine wpB_seq ?_ | refine wpB_regionL rfl ?_ | refine wpB_block ?_ | refine wpB_skip ?_ | refine wpB_exit ?_ | refine wpB_ret ?_ | simp (maxSteps := 1000000) (dsimp := false) (disch := omega) only [go_sem, simprocAttr, *])
      try simp (maxSteps := 1000000) (dsimp := false) (disch := omega) only [go_sem, simprocAttr, *, shape1, beqN_true, beqN_false, eqZ_false, or_false1]
    · repeat' (first | refine wpB_seq ?_ | refine wpB_regionL rfl ?_ | refine wpB_block ?_ | refine wpB_skip ?_ | refine wpB_exit ?_ | refine wpB_ret ?_ | simp (maxSteps := 1000000) (dsimp := false) (disch := omega) only [go_sem, simprocAttr, *])
      refine wpB_cond (by simp (maxSteps := 1000000) (dsimp := false) (disch := omega) only [go_sem, simprocAttr, *]; exact rfl) (fun hb => ?_) (fun hb => ?_) <;> try simp (maxSteps := 1000000) (dsimp := false) (disch := omega) only [go_sem, simprocAttr, decide_eq_true_eq, decide_eq_false_iff_not, Bool.not_eq_true, Bool.not_eq_false, Int.not_lt, Int.not_le] at hb
      repeat' (first | refine wpB_seq ?_ | refine wpB_regionL rfl ?_ | refine wpB_block ?_ | refine wpB_skip ?_ | refine wpB_exit ?_ | refine wpB_ret ?_ | simp (maxSteps := 1000000) (dsimp := false) (disch := omega) only [go_sem, simprocAttr, *])
      refine wpB_cond (by simp (maxSteps := 1000000) (dsimp := false) (disch := omega) only [go_sem, simprocAttr, *]; exact rfl) (fun hb => ?_) (fun hb => ?_) <;> try simp (maxSteps := 1000000) (dsimp := false) (disch := omega) only [go_sem, simprocAttr, decide_eq_true_eq, decide_eq_false_iff_not, Bool.not_eq_true, Bool.not_eq_false, Int.not_lt, Int.not_le] at hb
      repeat' (first | refine wpB_seq ?_ | refine wpB_regionL rfl ?_ | refine wpB_block ?_ | refine wpB_skip ?_ | refine wpB_exit ?_ | refine wpB_ret ?_ | simp (maxSteps := 1000000) (dsimp := false) (disch := omega) only [go_sem, simprocAttr, *])
      refine wpB_cond (by simp (maxSteps := 1000000) (dsimp := false) (disch := omega) only [go_sem, simprocAttr, *]; exact rfl) (fun hb => ?_) (fun hb => ?_) <;> try simp (maxSteps := 1000000) (dsimp := false) (disch := omega) only [go_sem, simprocAttr, decide_eq_true_eq, decide_eq_false_iff_not, Bool.not_eq_true, Bool.not_eq_false, Int.not_lt, Int.not_le] at hb
      repeat' (first | refine wpB_seq ?_ | refine wpB_regionL rfl ?_ | refine wpB_block ?_ | refine wpB_skip ?_ | refine wpB_exit ?_ | refine wpB_ret ?_ | simp (maxSteps := 1000000) (dsimp := false) (disch := omega) only [go_sem, simprocAttr, *])
      refine wpB_cond (by simp (maxSteps := 1000000) (dsimp := false) (disch := omega) only [go_sem, simprocAttr, *]; exact rfl) (fun hb => ?_) (fun hb => ?_) <;> try simp (maxSteps := 1000000) (dsimp := false) (disch := omega) only [go_sem, simprocAttr, decide_eq_true_eq, decide_eq_false_iff_not, Bool.not_eq_true, Bool.not_eq_false, Int.not_lt, Int.not_le] at hb
      repeat' (first | refine wpB_seq ?_ | refine wpB_regionL rfl ?_ | refine wpB_block ?_ | refine wpB_skip ?_ | refine wpB_exit ?_ | refine wpB_ret ?_ | simp (maxSteps := 1000000) (dsimp := false) (disch := omega) only [go_sem, simprocAttr, *])
      refine wpB_cond (by simp (maxSteps := 1000000) (dsimp := false) (disch := omega) only [go_sem, simprocAttr, *]; exact rfl) (fun hb => ?_) (fun hb => ?_) <;> try simp (maxSteps := 1000000) (dsimp := false) (disch := omega) only [go_sem, simprocAttr, decide_eq_true_eq, decide_eq_false_iff_not, Bool.not_eq_true, Bool.not_eq_false, Int.not_lt, Int.not_le] at hb
      repeat' (first | refine wpB_seq ?_ | refine wpB_regionL rfl ?_ | refine wpB_block ?_ | refine wpB_skip ?_ | refine wpB_exit ?_ | refine wpB_ret ?_ | simp (maxSteps := 1000000) (dsimp := false) (disch := omega) only [go_sem, simprocAttr, *])
      refine wpB_cond (by simp (maxSteps := 1000000) (dsimp := false) (disch := omega) only [go_sem, simprocAttr, *]; exact rfl) (fun hb => ?_) (fun hb => ?_) <;> try simp (maxSteps := 1000000) (dsimp := false) (disch := omega) only [go_sem, simprocAttr, decide_eq_true_eq, decide_eq_false_iff_not, Bool.not_eq_true, Bool.not_eq_false, Int.not_lt, Int.not_le] at hb
      repeat' (first | refine wpB_seq ?_ | refine wpB_regionL rfl ?_ | refine wpB_block ?_ | refine wpB_skip ?_ | refine wpB_exit ?_ | refine wpB_ret ?_ | simp (maxSteps := 1000000) (dsimp := false) (disch := omega) only [go_sem, simprocAttr, *])
      try simp (maxSteps := 1000000) (dsimp := false) (disch := omega) only [go_sem, simprocAttr, *, shape1, beqN_true, beqN_false, eqZ_false, or_false1]
    · repeat' (first | refine wpB_seq ?_ | refine wpB_regionL rfl ?_ | refine wpB_block ?_ | refine wpB_skip ?_ | refine wpB_exit ?_ | refine wpB_ret ?_ | simp (maxSteps := 1000000) (dsimp := false) (disch := omega) only [go_sem, simprocAttr, *])
      refine wpB_cond (by simp (maxSteps := 1000000) (dsimp := false) (disch := omega) only [go_sem, simprocAttr, *]; exact rfl) (fun hb => ?_) (fun hb => ?_) <;> try simp (maxSteps := 1000000) (dsimp := false) (disch := omega) only [go_sem, simprocAttr, decide_eq_true_eq, decide_eq_false_iff_not, Bool.not_eq_true, Bool.not_eq_false, Int.not_lt, Int.not_le] at hb
      repeat' (first | refine wpB_seq ?_ | refine wpB_regionL rfl ?_ | refine wpB_block ?_ | refine wpB_skip ?_ | refine wpB_exit ?_ | refine wpB_ret ?_ | simp (maxSteps := 1000000) (dsimp := false) (disch := omega) only [go_sem, simprocAttr, *])
      refine wpB_cond (by simp (maxSteps := 1000000) (dsimp := false) (disch := omega) only [go_sem, simprocAttr, *]; exact rfl) (fun hb => ?_) (fun hb => ?_) <;> try simp (maxSteps := 1000000) (dsimp := false) (disch := omega) only [go_sem, simprocAttr, decide_eq_true_eq, decide_eq_false_iff_not, Bool.not_eq_true, Bool.not_eq_false, Int.not_lt, Int.not_le] at hb
      repeat' (first | refine wpB_seq ?_ | refine wpB_regionL rfl ?_ | refine wpB_block ?_ | refine wpB_skip ?_ | refine wpB_exit ?_ | refine wpB_ret ?_ | simp (maxSteps := 1000000) (dsimp := false) (disch := omega) only [go_sem, simprocAttr, *])
      refine wpB_cond (by simp (maxSteps := 1000000) (dsimp := false) (disch := omega) only [go_sem, simprocAttr, *]; exact rfl) (fun hb => ?_) (fun hb => ?_) <;> try simp (maxSteps := 1000000) (dsimp := false) (disch := omega) only [go_sem, simprocAttr, decide_eq_true_eq, decide_eq_false_iff_not, Bool.not_eq_true, Bool.not_eq_false, Int.not_lt, Int.not_le] at hb
      repeat' (first | refine wpB_seq ?_ | refine wpB_regionL rfl ?_ | refine wpB_block ?_ | refine wpB_skip ?_ | refine wpB_exit ?_ | refine wpB_ret ?_ | simp (maxSteps := 1000000) (dsimp := false) (disch := omega) only [go_sem, simprocAttr, *])
      refine wpB_cond (by simp (maxSteps := 1000000) (dsimp := false) (disch := omega) only [go_sem, simprocAttr, *]; exact rfl) (fun hb => ?_) (fun hb => ?_) <;> try simp (maxSteps := 1000000) (dsimp := false) (disch := omega) only [go_sem, simprocAttr, decide_eq_true_eq, decide_eq_false_iff_not, Bool.not_eq_true, Bool.not_eq_false, Int.not_lt, Int.not_le] at hb
      repeat' (first | refine wpB_seq ?_ | refine wpB_regionL rfl ?_ | refine wpB_block ?_ | refine wpB_skip ?_ | refine wpB_exit ?_ | refine wpB_ret ?_ | simp (maxSteps := 1000000) (dsimp := false) (disch := omega) only [go_sem, simprocAttr, *])
      refine wpB_cond (by simp (maxSteps := 1000000) (dsimp := false) (disch := omega) only [go_sem, simprocAttr, *]; exact rfl) (fun hb => ?_) (fun hb => ?_) <;> try simp (maxSteps := 1000000) (dsimp := false) (disch := omega) only [go_sem, simprocAttr, decide_eq_true_eq, decide_eq_false_iff_not, Bool.not_eq_true, Bool.not_eq_false, Int.not_lt, Int.not_le] at hb
      repeat' (first | refine wpB_seq ?_ | refine wpB_regionL rfl ?_ | refine wpB_block ?_ | refine wpB_skip ?_ | refine wpB_exit ?_ | refine wpB_ret ?_ | simp (maxSteps := 1000000) (dsimp := false) (disch := omega) only [go_sem, simprocAttr, *])
      refine wpB_cond (by simp (maxSteps := 1000000) (dsimp := false) (disch := omega) only [go_sem, simprocAttr, *]; exact rfl) (fun hb => ?_) (fun hb => ?_) <;> try simp (maxSteps := 1000000) (dsimp := false) (disch := omega) only [go_sem, simprocAttr, decide_eq_true_eq, decide_eq_false_iff_not, Bool.not_eq_true, Bool.not_eq_false, Int.not_lt, Int.not_le] at hb
      repeat' (first | refine wpB_seq ?_ | refine wpB_regionL rfl ?_ | refine wpB_block ?_ | refine wpB_skip ?_ | refine wpB_exit ?_ | refine wpB_ret ?_ | simp (maxSteps := 1000000) (dsimp := false) (disch := omega) only [go_sem, simprocAttr, *])
      try simp (maxSteps := 1000000) (dsimp := false) (disch := omega) only [go_sem, simprocAttr, *, shape1, beqN_true, beqN_false, eqZ_false, or_false1]
    · repeat' (first | refine wpB_seq ?_ | refine wpB_regionL rfl ?_ | refine wpB_block ?_ | refine wpB_skip ?_ | refine wpB_exit ?_ | refine wpB_ret ?_ | simp (maxSteps := 1000000) (dsimp := false) (disch := omega) only [go_sem, simprocAttr, *])
      refine wpB_cond (by simp (maxSteps := 1000000) (dsimp := false) (disch := omega) only [go_sem, simprocAttr, *]; exact rfl) (fun hb => ?_) (fun hb => ?_) <;> try simp (maxSteps := 1000000) (dsimp := false) (disch := omega) only [go_sem, simprocAttr, decide_eq_true_eq, decide_eq_false_iff_not, Bool.not_eq_true, Bool.not_eq_false, Int.not_lt, Int.not_le] at hb
      repeat' (first | refine wpB_seq ?_ | refine wpB_regionL rfl ?_ | refine wpB_block ?_ | refine wpB_skip ?_ | refine wpB_exit ?_ | refine wpB_ret ?_ | simp (maxSteps := 1000000) (dsimp := false) (disch := omega) only [go_sem, simprocAttr, *])
      refine wpB_cond (by simp (maxSteps := 1000000) (dsimp := false) (disch := omega) only [go_sem, simprocAttr, *]; exact rfl) (fun hb => ?_) (fun hb => ?_) <;> try simp (maxSteps := 1000000) (dsimp := false) (disch := omega) only [go_sem, simprocAttr, decide_eq_true_eq, decide_eq_false_iff_not, Bool.not_eq_true, Bool.not_eq_false, Int.not_lt, Int.not_le] at hb
      repeat' (first | refine wpB_seq ?_ | refine wpB_regionL rfl ?_ | refine wpB_block ?_ | refine wpB_skip ?_ | refine wpB_exit ?_ | refine wpB_ret ?_ | simp (maxSteps := 1000000) (dsimp := false) (disch := omega) only [go_sem, simprocAttr, *])
      refine wpB_cond (by simp (maxSteps := 1000000) (dsimp := false) (disch := omega) only [go_sem, simprocAttr, *]; exact rfl) (fun hb => ?_) (fun hb => ?_) <;> try simp (maxSteps := 1000000) (dsimp := false) (disch := omega) only [go_sem, simprocAttr, decide_eq_true_eq, decide_eq_false_iff_not, Bool.not_eq_true, Bool.not_eq_false, Int.not_lt, Int.not_le] at hb
      repeat' (first | refine wpB_seq ?_ | refine wpB_regionL rfl ?_ | refine wpB_block ?_ | refine wpB_skip ?_ | refine wpB_exit ?_ | refine wpB_ret ?_ | simp (maxSteps := 1000000) (dsimp := false) (disch := omega) only [go_sem, simprocAttr, *])
      refine wpB_cond (by simp (maxSteps := 1000000) (dsimp := false) (disch := omega) only [go_sem, simprocAttr, *]; exact rfl) (fun hb => ?_) (fun hb => ?_) <;> try simp (maxSteps := 1000000) (dsimp := false) (disch := omega) only [go_sem, simprocAttr, decide_eq_true_eq, decide_eq_false_iff_not, Bool.not_eq_true, Bool.not_eq_false, Int.not_lt, Int.not_le] at hb
      repeat' (first | refine wpB_seq ?_ | refine wpB_regionL rfl ?_ | refine wpB_block ?_ | refine wpB_skip ?_ | refine wpB_exit ?_ | refine wpB_ret ?_ | simp (maxSteps := 1000000) (dsimp := false) (disch := omega) only [go_sem, simprocAttr, *])
      refine wpB_cond (by simp (maxSteps := 1000000) (dsimp := false) (disch := omega) only [go_sem, simprocAttr, *]; exact rfl) (fun hb => ?_) (fun hb => ?_) <;> try simp (maxSteps := 1000000) (dsimp := false) (disch := omega) only [go_sem, simprocAttr, decide_eq_true_eq, decide_eq_false_iff_not, Bool.not_eq_true, Bool.not_eq_false, Int.not_lt, Int.not_le] at hb
      repeat' (first | refine wpB_seq ?_ | refine wpB_regionL rfl ?_ | refine wpB_block ?_ | refine wpB_skip ?_ | refine wpB_exit ?_ | refine wpB_ret ?_ | simp (maxSteps := 1000000) (dsimp := false) (disch := omega) only [go_sem, simprocAttr, *])
      refine wpB_cond (by simp (maxSteps := 1000000) (dsimp := false) (disch := omega) only [go_sem, simprocAttr, *]; exact rfl) (fun hb => ?_) (fun hb => ?_) <;> try simp (maxSteps := 1000000) (dsimp := false) (disch := omega) only [go_sem, simprocAttr, decide_eq_true_eq, decide_eq_false_iff_not, Bool.not_eq_true, Bool.not_eq_false, Int.not_lt, Int.not_le] at hb
      repeat' (first | refine wpB_seq ?_ | refine wpB_regionL rfl ?_ | refine wpB_block ?_ | refine wpB_skip ?_ | refine wpB_exit ?_ | refine wpB_ret ?_ | simp (maxSteps := 1000000) (dsimp := false) (disch := omega) only [go_sem, simprocAttr, *])
      try simp (maxSteps := 1000000) (dsimp := false) (disch := omega) only [go_sem, simprocAttr, *, shape1, beqN_true, beqN_false, eqZ_false, or_false1]
  by_cases h5 : k = 5
  · subst h5
    by_cases hs : s = 0 <;> by_cases hl : l.length = 1
    · repeat' (first | refine wpB_seq ?_ | refine wpB_regionL rfl ?_ | refine wpB_block ?_ | refine wpB_skip ?_ | refine wpB_exit ?_ | refine wpB_ret ?_ | simp (maxSteps := 1000000) (dsimp := false) (disch := omega) only [go_sem, simprocAttr, *])
      refine wpB_cond (by simp (maxSteps := 1000000) (dsimp := false) (disch := omega) only [go_sem, simprocAttr, *]; exact rfl) (fun hb => ?_) (fun hb => ?_) <;> try simp (maxSteps := 1000000) (dsimp := false) (disch := omega) only [go_sem, simprocAttr, decide_eq_true_eq, decide_eq_false_iff_not, Bool.not_eq_true, Bool.not_eq_false, Int.not_lt, Int.not_le] at hb
      repeat' (first | refine wpB_seq ?_ | refine wpB_regionL rfl ?_ | refine wpB_block ?_ | refine wpB_skip ?_ | refine wpB_exit ?_ | refine wpB_ret ?_ | simp (maxSteps := 1000000) (dsimp := false) (disch := omega) only [go_sem, simprocAttr, *])
      refine wpB_cond (by simp (maxSteps := 1000000) (dsimp := false) (disch := omega) only [go_sem, simprocAttr, *]; exact rfl) (fun hb => ?_) (fun hb => ?_) <;> try simp (maxSteps := 1000000) (dsimp := false) (disch := omega) only [go_sem, simprocAttr, decide_eq_true_eq, decide_eq_false_iff_not, Bool.not_eq_true, Bool.not_eq_false, Int.not_lt, Int.not_le] at hb
      repeat' (first | refine wpB_seq ?_ | refine wpB_regionL rfl ?_ | refine wpB_block ?_ | refine wpB_skip ?_ | refine wpB_exit ?_ | refine wpB_ret ?_ | simp (maxSteps := 1000000) (dsimp := false) (disch := omega) only [go_sem, simprocAttr, *])
      refine wpB_cond (by simp (maxSteps := 1000000) (dsimp := false) (disch := omega) only [go_sem, simprocAttr, *]; exact rfl) (fun hb => ?_) (fun hb => ?_) <;> try simp (maxSteps := 1000000) (dsimp := false) (disch := omega) only [go_sem, simprocAttr, decide_eq_true_eq, decide_eq_false_iff_not, Bool.not_eq_true, Bool.not_eq_false, Int.not_lt, Int.not_le] at hb
      repeat' (first | refine wpB_seq ?_ | refine wpB_regionL rfl ?_ | refine wpB_block ?_ | refine wpB_skip ?_ | refine wpB_exit ?_ | refine wpB_ret ?_ | simp (maxSteps := 1000000) (dsimp := false) (disch := omega) only [go_sem, simprocAttr, *])
      refine wpB_cond (by simp (maxSteps := 1000000) (dsimp := false) (disch := omega) only [go_sem, simprocAttr, *]; exact rfl) (fun hb => ?_) (fun hb => ?_) <;> try simp (maxSteps := 1000000) (dsimp := false) (disch := omega) only [go_sem, simprocAttr, decide_eq_true_eq, decide_eq_false_iff_not, Bool.not_eq_true, Bool.not_eq_false, Int.not_lt, Int.not_le] at hb
      repeat' (first | refine wpB_seq ?_ | refine wpB_regionL rfl ?_ | refine wpB_block ?_ | refine wpB_skip ?_ | refine wpB_exit ?_ | refine wpB_ret ?_ | simp (maxSteps := 1000000) (dsimp := false) (disch := omega) only [go_sem, simprocAttr, *])
      refine wpB_cond (by simp (maxSteps := 1000000) (dsimp := false) (disch := omega) only [go_sem, simprocAttr, *]; exact rfl) (fun hb => ?_) (fun hb => ?_) <;> try simp (maxSteps := 1000000) (dsimp := false) (disch := omega) only [go_sem, simprocAttr, decide_eq_true_eq, decide_eq_false_iff_not, Bool.not_eq_true, Bool.not_eq_false, Int.not_lt, Int.not_le] at hb
      repeat' (first | refine wpB_seq ?_ | refine wpB_regionL rfl ?_ | refine wpB_block ?_ | refine wpB_skip ?_ | refine wpB_exit ?_ | refine wpB_ret ?_ | simp (maxSteps := 1000000) (dsimp := false) (disch := omega) only [go_sem, simprocAttr, *])
      refine wpB_cond (by simp (maxSteps := 1000000) (dsimp := false) (disch := omega) only [go_sem, simprocAttr, *]; exact rfl) (fun hb => ?_) (fun hb => ?_) <;> try simp (maxSteps := 1000000) (dsimp := false) (disch := omega) only [go_sem, simprocAttr, decide_eq_true_eq, decide_eq_false_iff_not, Bool.not_eq_true, Bool.not_eq_false, Int.not_lt, Int.not_le] at hb
      repeat' (first | refine wpB_seq ?_ | refine wpB_regionL rfl ?_ | refine wpB_block ?_ | refine wpB_skip ?_ | refine wpB_exit ?_ | refine wpB_ret ?_ | simp (maxSteps := 1000000) (dsimp := false) (disch := omega) only [go_sem, simprocAttr, *])
      try simp (maxSteps := 1000000) (dsimp := false) (disch := omega) only [go_sem, simprocAttr, *, shape1, beqN_true, beqN_false, eqZ_false, or_false1]
    · repeat' (first | refine wpB_seq ?_ | refine wpB_regionL rfl ?_ | refine wpB_block ?_ | refine wpB_skip ?_ | refine wpB_exit ?_ | refine wpB_ret ?_ | simp (maxSteps := 1000000) (dsimp := false) (disch := omega) only [go_sem, simprocAttr, *])
      refine wpB_cond (by simp (maxSteps := 1000000) (dsimp := false) (disch := omega) only [go_sem, simprocAttr, *]; exact rfl) (fun hb => ?_) (fun hb => ?_) <;> try simp (maxSteps := 1000000) (dsimp := false) (disch := omega) only [go_sem, simprocAttr, decide_eq_true_eq, decide_eq_false_iff_not, Bool.not_eq_true, Bool.not_eq_false, Int.not_lt, Int.not_le] at hb
      repeat' (first | refine wpB_seq ?_ | refine wpB_regionL rfl ?_ | refine wpB_block ?_ | refine wpB_skip ?_ | refine wpB_exit ?_ | refine wpB_ret ?_ | simp (maxSteps := 1000000) (dsimp := false) (disch := omega) only [go_sem, simprocAttr, *])
      refine wpB_cond (by simp (maxSteps := 1000000) (dsimp := false) (disch := omega) only [go_sem, simprocAttr, *]; exact rfl) (fun hb => ?_) (fun hb => ?_) <;> try simp (maxSteps := 1000000) (dsimp := false) (disch := omega) only [go_sem, simprocAttr, decide_eq_true_eq, decide_eq_false_iff_not, Bool.not_eq_true, Bool.not_eq_false, Int.not_lt, Int.not_le] at hb
      repeat' (first | refine wpB_seq ?_ | refine wpB_regionL rfl ?_ | refine wpB_block ?_ | refine wpB_skip ?_ | refine wpB_exit ?_ | refine wpB_ret ?_ | simp (maxSteps := 1000000) (dsimp := false) (disch := omega) only [go_sem, simprocAttr, *])
      refine wpB_cond (by simp (maxSteps := 1000000) (dsimp := false) (disch := omega) only [go_sem, simprocAttr, *]; exact rfl) (fun hb => ?_) (fun hb => ?_) <;> try simp (maxSteps := 1000000) (dsimp := false) (disch := omega) only [go_sem, simprocAttr, decide_eq_true_eq, decide_eq_false_iff_not, Bool.not_eq_true, Bool.not_eq_false, Int.not_lt, Int.not_le] at hb
      repeat' (first | refine wpB_seq ?_ | refine wpB_regionL rfl ?_ | refine wpB_block ?_ | refine wpB_skip ?_ | refine wpB_exit ?_ | refine wpB_ret ?_ | simp (maxSteps := 1000000) (dsimp := false) (disch := omega) only [go_sem, simprocAttr, *])
      refine wpB_cond (by simp (maxSteps := 1000000) (dsimp := false) (disch := omega) only [go_sem, simprocAttr, *]; exact rfl) (fun hb => ?_) (fun hb => ?_) <;> try simp (maxSteps := 1000000) (dsimp := false) (disch := omega) only [go_sem, simprocAttr, decide_eq_true_eq, decide_eq_false_iff_not, Bool.not_eq_true, Bool.not_eq_false, Int.not_lt, Int.not_le] at hb
      repeat' (first | refine wpB_seq ?_ | refine wpB_regionL rfl ?_ | refine wpB_block ?_ | refine wpB_skip ?_ | refine wpB_exit ?_ | refine wpB_ret ?_ | simp (maxSteps := 1000000) (dsimp := false) (disch := omega) only [go_sem, simprocAttr, *])
      refine wpB_cond (by simp (maxSteps := 1000000) (dsimp := false) (disch := omega) only [go_sem, simprocAttr, *]; exact rfl) (fun hb => ?_) (fun hb => ?_) <;> try simp (maxSteps := 1000000) (dsimp := false) (disch := omega) only [go_sem, simprocAttr, decide_eq_true_eq, decide_eq_false_iff_not, Bool.not_eq_true, Bool.not_eq_false, Int.not_lt, Int.not_le] at hb
      repeat' (first | refine wpB_seq ?_ | refine wpB_regionL rfl ?_ | refine wpB_block ?_ | refine wpB_skip ?_ | refine wpB_exit ?_ | refine wpB_ret ?_ | simp (maxSteps := 1000000) (dsimp := false) (disch := omega) only [go_sem, simprocAttr, *])
      refine wpB_cond (by simp (maxSteps := 1000000) (dsimp := false) (disch := omega) only [go_sem, simprocAttr, *]; exact rfl) (fun hb => ?_) (fun hb => ?_) <;> try simp (maxSteps := 1000000) (dsimp := false) (disch := omega) only [go_sem, simprocAttr, decide_eq_true_eq, decide_eq_false_iff_not, Bool.not_eq_true, Bool.not_eq_false, Int.not_lt, Int.not_le] at hb
      repeat' (first | refine wpB_seq ?_ | refine wpB_regionL rfl ?_ | refine wpB_block ?_ | refine wpB_skip ?_ | refine wpB_exit ?_ | refine wpB_ret ?_ | simp (maxSteps := 1000000) (dsimp := false) (disch := omega) only [go_sem, simprocAttr, *])
      try simp (maxSteps := 1000000) (dsimp := false) (disch := omega) only [go_sem, simprocAttr, *, shape1, beqN_true, beqN_false, eqZ_false, or_false1]
    · repeat' (first | refine wpB_seq ?_ | refine wpB_regionL rfl ?_ | refine wpB_block ?_ | refine wpB_skip ?_ | refine wpB_exit ?_ | refine wpB_ret ?_ | simp (maxSteps := 1000000) (dsimp := false) (disch := omega) only [go_sem, simprocAttr, *])
      refine wpB_cond (by simp (maxSteps := 1000000) (dsimp := false) (disch := omega) only [go_sem, simprocAttr, *]; exact rfl) (fun hb => ?_) (fun hb => ?_) <;> try simp (maxSteps := 1000000) (dsimp := false) (disch := omega) only [go_sem, simprocAttr, decide_eq_true_eq, decide_eq_false_iff_not, Bool.not_eq_true, Bool.not_eq_false, Int.not_lt, Int.not_le] at hb
      repeat' (first | refine wpB_seq ?_ | refine wpB_regionL rfl ?_ | refine wpB_block ?_ | refine wpB_skip ?_ | refine wpB_exit ?_ | refine wpB_ret ?_ | simp (maxSteps := 1000000) (dsimp := false) (disch := omega) only [go_sem, simprocAttr, *])
      refine wpB_cond (by simp (maxSteps := 1000000) (dsimp := false) (disch := omega) only [go_sem, simprocAttr, *]; exact rfl) (fun hb => ?_) (fun hb => ?_) <;> try simp (maxSteps := 1000000) (dsimp := false) (disch := omega) only [go_sem, simprocAttr, decide_eq_true_eq, decide_eq_false_iff_not, Bool.not_eq_true, Bool.not_eq_false, Int.not_lt, Int.not_le] at hb
      repeat' (first | refine wpB_seq ?_ | refine wpB_regionL rfl ?_ | refine wpB_block ?_ | refine wpB_skip ?_ | refine wpB_exit ?_ | refine wpB_ret ?_ | simp (maxSteps := 1000000) (dsimp := false) (disch := omega) only [go_sem, simprocAttr, *])
      refine wpB_cond (by simp (maxSteps := 1000000) (dsimp := false) (disch := omega) only [go_sem, simprocAttr, *]; exact rfl) (fun hb => ?_) (fun hb => ?_) <;> try simp (maxSteps := 1000000) (dsimp := false) (disch := omega) only [go_sem, simprocAttr, decide_eq_true_eq, decide_eq_false_iff_not, Bool.not_eq_true, Bool.not_eq_false, Int.not_lt, Int.not_le] at hb
      repeat' (first | refine wpB_seq ?_ | refine wpB_regionL rfl ?_ | refine wpB_block ?_ | refine wpB_skip ?_ | refine wpB_exit ?_ | refine wpB_ret ?_ | simp (maxSteps := 1000000) (dsimp := false) (disch := omega) only [go_sem, simprocAttr, *])
      refine wpB_cond (by simp (maxSteps := 1000000) (dsimp := false) (disch := omega) only [go_sem, simprocAttr, *]; exact rfl) (fun hb => ?_) (fun hb => ?_) <;> try simp (maxSteps := 1000000) (dsimp := false) (disch := omega) only [go_sem, simprocAttr, decide_eq_true_eq, decide_eq_false_iff_not, Bool.not_eq_true, Bool.not_eq_false, Int.not_lt, Int.not_le] at hb
      repeat' (first | refine wpB_seq ?_ | refine wpB_regionL rfl ?_ | refine wpB_block ?_ | refine wpB_skip ?_ | refine wpB_exit ?_ | refine wpB_ret ?_ | simp (maxSteps := 1000000) (dsimp := false) (disch := omega) only [go_sem, simprocAttr, *])
      refine wpB_cond (by simp (maxSteps := 1000000) (dsimp := false) (disch := omega) only [go_sem, simprocAttr, *]; exact rfl) (fun hb => ?_) (fun hb => ?_) <;> try simp (maxSteps := 1000000) (dsimp := false) (disch := omega) only [go_sem, simprocAttr, decide_eq_true_eq, decide_eq_false_iff_not, Bool.not_eq_true, Bool.not_eq_false, Int.not_lt, Int.not_le] at hb
      repeat' (first | refine wpB_seq ?_ | refine wpB_regionL rfl ?_ | refine wpB_block ?_ | refine wpB_skip ?_ | refine wpB_exit ?_ | refine wpB_ret ?_ | simp (maxSteps := 1000000) (dsimp := false) (disch := omega) only [go_sem, simprocAttr, *])
      refine wpB_cond (by simp (maxSteps := 1000000) (dsimp := false) (disch := omega) only [go_sem, simprocAttr, *]; exact rfl) (fun hb => ?_) (fun hb => ?_) <;> try simp (maxSteps := 1000000) (dsimp := false) (disch := omega) only [go_sem, simprocAttr, decide_eq_true_eq, decide_eq_false_iff_not, Bool.not_eq_true, Bool.not_eq_false, Int.not_lt, Int.not_le] at hb
      repeat' (first | refine wpB_seq ?_ | refine wpB_regionL rfl ?_ | refine wpB_block ?_ | refine wpB_skip ?_ | refine wpB_exit ?_ | refine wpB_ret ?_ | simp (maxSteps := 1000000) (dsimp := false) (disch := omega) only [go_sem, simprocAttr, *])
      try simp (maxSteps := 1000000) (dsimp := false) (disch := omega) only [go_sem, simprocAttr, *, shape1, beqN_true, beqN_false, eqZ_false, or_false1]
    · repeat' (first | refine wpB_seq ?_ | refine wpB_regionL rfl ?_ | refine wpB_block ?_ | refine wpB_skip ?_ | refine wpB_exit ?_ | refine wpB_ret ?_ | simp (maxSteps := 1000000) (dsimp := false) (disch := omega) only [go_sem, simprocAttr, *])
      refine wpB_cond (by simp (maxSteps := 1000000) (dsimp := false) (disch := omega) only [go_sem, simprocAttr, *]; exact rfl) (fun hb => ?_) (fun hb => ?_) <;> try simp (maxSteps := 1000000) (dsimp := false) (disch := omega) only [go_sem, simprocAttr, decide_eq_true_eq, decide_eq_false_iff_not, Bool.not_eq_true, Bool.not_eq_false, Int.not_lt, Int.not_le] at hb
      repeat' (first | refine wpB_seq ?_ | refine wpB_regionL rfl ?_ | refine wpB_block ?_ | refine wpB_skip ?_ | refine wpB_exit ?_ | refine wpB_ret ?_ | simp (maxSteps := 1000000) (dsimp := false) (disch := omega) only [go_sem, simprocAttr, *])
      refine wpB_cond (by simp (maxSteps := 1000000) (dsimp := false) (disch := omega) only [go_sem, simprocAttr, *]; exact rfl) (fun hb => ?_) (fun hb => ?_) <;> try simp (maxSteps := 1000000) (dsimp := false) (disch := omega) only [go_sem, simprocAttr, decide_eq_true_eq, decide_eq_false_iff_not, Bool.not_eq_true, Bool.not_eq_false, Int.not_lt, Int.not_le] at hb
      repeat' (first | refine wpB_seq ?_ | refine wpB_regionL rfl ?_ | refine wpB_block ?_ | refine wpB_skip ?_ | refine wpB_exit ?_ | refine wpB_ret ?_ | simp (maxSteps := 1000000) (dsimp := false) (disch := omega) only [go_sem, simprocAttr, *])
      refine wpB_cond (by simp (maxSteps := 1000000) (dsimp := false) (disch := omega) only [go_sem, simprocAttr, *]; exact rfl) (fun hb => ?_) (fun hb => ?_) <;> try simp (maxSteps := 1000000) (dsimp := false) (disch := omega) only [go_sem, simprocAttr, decide_eq_true_eq, decide_eq_false_iff_not, Bool.not_eq_true, Bool.not_eq_false, Int.not_lt, Int.not_le] at hb
      repeat' (first | refine wpB_seq ?_ | refine wpB_regionL rfl ?_ | refine wpB_block ?_ | refine wpB_skip ?_ | refine wpB_exit ?_ | refine wpB_ret ?_ | simp (maxSteps := 1000000) (dsimp := false) (disch := omega) only [go_sem, simprocAttr, *])
      refine wpB_cond (by simp (maxSteps := 1000000) (dsimp := false) (disch := omega) only [go_sem, simprocAttr, *]; exact rfl) (fun hb => ?_) (fun hb => ?_) <;> try simp (maxSteps := 1000000) (dsimp := false) (disch := omega) only [go_sem, simprocAttr, decide_eq_true_eq, decide_eq_false_iff_not, Bool.not_eq_true, Bool.not_eq_false, Int.not_lt, Int.not_le] at hb
      repeat' (first | refine wpB_seq ?_ | refine wpB_regionL rfl ?_ | refine wpB_block ?_ | refine wpB_skip ?_ | refine wpB_exit ?_ | refine wpB_ret ?_ | simp (maxSteps := 1000000) (dsimp := false) (disch := omega) only [go_sem, simprocAttr, *])
      refine wpB_cond (by simp (maxSteps := 1000000) (dsimp := false) (disch := omega) only [go_sem, simprocAttr, *]; exact rfl) (fun hb => ?_) (fun hb => ?_) <;> try simp (maxSteps := 1000000) (dsimp := false) (disch := omega) only [go_sem, simprocAttr, decide_eq_true_eq, decide_eq_false_iff_not, Bool.not_eq_true, Bool.not_eq_false, Int.not_lt, Int.not_le] at hb
      repeat' (first | refine wpB_seq ?_ | refine wpB_regionL rfl ?_ | refine wpB_block ?_ | refine wpB_skip ?_ | refine wpB_exit ?_ | refine wpB_ret ?_ | simp (maxSteps := 1000000) (dsimp := false) (disch := omega) only [go_sem, simprocAttr, *])
      refine wpB_cond (by simp (maxSteps := 1000000) (dsimp := false) (disch := omega) only [go_sem, simprocAttr, *]; exact rfl) (fun hb => ?_) (fun hb => ?_) <;> try simp (maxSteps := 1000000) (dsimp := false) (disch := omega) only [go_sem, simprocAttr, decide_eq_true_eq, decide_eq_false_iff_not, Bool.not_eq_true, Bool.not_eq_false, Int.not_lt, Int.not_le] at hb
      repeat' (first | refine wpB_seq ?_ | refine wpB_regionL rfl ?_ | refine wpB_block ?_ | refine wpB_skip ?_ | refine wpB_exit ?_ | refine wpB_ret ?_ | simp (maxSteps := 1000000) (dsimp := false) (disch := omega) only [go_sem, simprocAttr, *])
      try simp (maxSteps := 1000000) (dsimp := false) (disch := omega) only [go_sem, simprocAttr, *, shape1, beqN_true, beqN_false, eqZ_false, or_false1]
  repeat' (first | refine wpB_seq ?_ | refine wpB_regionL rfl ?_ | refine wpB_block ?_ | refine wpB_skip ?_ | refine wpB_exit ?_ | refine wpB_ret ?_ | simp (maxSteps := 1000000) (dsimp := false) (disch := omega) only [go_sem, simprocAttr, *])
  refine wpB_cond (by simp (maxSteps := 1000000) (dsimp := false) (disch := omega) only [go_sem, simprocAttr, *]; exact rfl) (fun hb => ?_) (fun hb => ?_) <;> try simp (maxSteps := 1000000) (dsimp := false) (disch := omega) only [go_sem, simprocAttr, decide_eq_true_eq, decide_eq_false_iff_not, Bool.not_eq_true, Bool.not_eq_false, Int.not_lt, Int.not_le] at hb
  repeat' (first | refine wpB_seq ?_ | refine wpB_regionL rfl ?_ | refine wpB_block ?_ | refine wpB_skip ?_ | refine wpB_exit ?_ | refine wpB_ret ?_ | simp (maxSteps := 1000000) (dsimp := false) (disch := omega) only [go_sem, simprocAttr, *])
  refine wpB_cond (by simp (maxSteps := 1000000) (dsimp := false) (disch := omega) only [go_sem, simprocAttr, *]; exact rfl) (fun hb => ?_) (fun hb => ?_) <;> try simp (maxSteps := 1000000) (dsimp := false) (disch := omega) only [go_sem, simprocAttr, decide_eq_true_eq, decide_eq_false_iff_not, Bool.not_eq_true, Bool.not_eq_false, Int.not_lt, Int.not_le] at hb
  repeat' (first | refine wpB_seq ?_ | refine wpB_regionL rfl ?_ | refine wpB_block ?_ | refine wpB_skip ?_ | refine wpB_exit ?_ | refine wpB_ret ?_ | simp (maxSteps := 1000000) (dsimp := false) (disch := omega) only [go_sem, simprocAttr, *])
  refine wpB_cond (by simp (maxSteps := 1000000) (dsimp := false) (disch := omega) only [go_sem, simprocAttr, *]; exact rfl) (fun hb => ?_) (fun hb => ?_) <;> try simp (maxSteps := 1000000) (dsimp := false) (disch := omega) only [go_sem, simprocAttr, decide_eq_true_eq, decide_eq_false_iff_not, Bool.not_eq_true, Bool.not_eq_false, Int.not_lt, Int.not_le] at hb
  repeat' (first | refine wpB_seq ?_ | refine wpB_regionL rfl ?_ | refine wpB_block ?_ | refine wpB_skip ?_ | refine wpB_exit ?_ | refine wpB_ret ?_ | simp (maxSteps := 1000000) (dsimp := false) (disch := omega) only [go_sem, simprocAttr, *])
  refine wpB_cond (by simp (maxSteps := 1000000) (dsimp := false) (disch := omega) only [go_sem, simprocAttr, *]; exact rfl) (fun hb => ?_) (fun hb => ?_) <;> try simp (maxSteps := 1000000) (dsimp := false) (disch := omega) only [go_sem, simprocAttr, decide_eq_true_eq, decide_eq_false_iff_not, Bool.not_eq_true, Bool.not_eq_false, Int.not_lt, Int.not_le] at hb
  repeat' (first | refine wpB_seq ?_ | refine wpB_regionL rfl ?_ | refine wpB_block ?_ | refine wpB_skip ?_ | refine wpB_exit ?_ | refine wpB_ret ?_ | simp (maxSteps := 1000000) (dsimp := false) (disch := omega) only [go_sem, simprocAttr, *])
  refine wpB_cond (by simp (maxSteps := 1000000) (dsimp := false) (disch := omega) only [go_sem, simprocAttr, *]; exact rfl) (fun hb => ?_) (fun hb => ?_) <;> try simp (maxSteps := 1000000) (dsimp := false) (disch := omega) only [go_sem, simprocAttr, decide_eq_true_eq, decide_eq_false_iff_not, Bool.not_eq_true, Bool.not_eq_false, Int.not_lt, Int.not_le] at hb
  repeat' (first | refine wpB_seq ?_ | refine wpB_regionL rfl ?_ | refine wpB_block ?_ | refine wpB_skip ?_ | refine wpB_exit ?_ | refine wpB_ret ?_ | simp (maxSteps := 1000000) (dsimp := false) (disch := omega) only [go_sem, simprocAttr, *])
  refine wpB_cond (by simp (maxSteps := 1000000) (dsimp := false) (disch := omega) only [go_sem, simprocAttr, *]; exact rfl) (fun hb => ?_) (fun hb => ?_) <;> try simp (maxSteps := 1000000) (dsimp := false) (disch := omega) only [go_sem, simprocAttr, decide_eq_true_eq, decide_eq_false_iff_not, Bool.not_eq_true, Bool.not_eq_false, Int.not_lt, Int.not_le] at hb
  repeat' (first | refine wpB_seq ?_ | refine wpB_regionL rfl ?_ | refine wpB_block ?_ | refine wpB_skip ?_ | refine wpB_exit ?_ | refine wpB_ret ?_ | simp (maxSteps := 1000000) (dsimp := false) (disch := omega) only [go_sem, simprocAttr, *])
  try simp (maxSteps := 1000000) (dsimp := false) (disch := omega) only [go_sem, simprocAttr, *, shape1, beqN_true, beqN_false, eqZ_false, or_false1]

/-! ### count -/
mutual
def cntR : Rx → Nat → Int → Bool × Int
  | .mk k s l, d, left => if left - 1 < 0 ∨ d = 0 ∨ shape1 k s l.length = false then (false, left - 1) else cntL l (d - 1) (left - 1)
def cntL : List Rx → Nat → Int → Bool × Int
  | [], _, left => (true, left)
  | r :: l, d, left => if (cntR r d left).1 then cntL l d (cntR r d left).2 else (false, (cntR r d left).2)
end
end Go.Proofs.W
end
/- Expressions: the program's count of nodes. -/
section
set_option maxHeartbeats 4000000
set_option linter.unusedVariables false
set_option linter.unusedSimpArgs false
namespace Go.Proofs.W
open Go Vm Go.Proofs.Zs06

/-- a cell that is written; what lay elsewhere lies there still -/
structure PtrTo (H H' : Heap) (p : Nat) (v : D) : Prop where
  len : H.length ≤ H'.length
  at_ : hget H' p = .arr [v]
  low : ∀ k, k < H.length → k ≠ p → hget H' k = hget H k
theorem lt_of_hget {H : Heap} {p : Nat} {xs : List D} (h : hget H p = .arr xs) : p < H.length := hget_lt h (by simp)
theorem PtrTo.trans {H H1 H2 : Heap} {p : Nat} {v w : D} (h : PtrTo H H1 p v) (g : PtrTo H1 H2 p w) : PtrTo H H2 p w :=
  ⟨Nat.le_trans h.len g.len, g.at_, fun k hk hne => by rw [g.low k (Nat.lt_of_lt_of_le hk h.len) hne, h.low k hk hne]⟩
theorem wpB_heap {N : Nat} {c : Code} {e : Env} {H : Heap} {Q : Ex → Env → Heap → Prop} (I : Heap → Prop) (h0 : I H) (h : ∀ H, I H → WpB Try.prog A N c e H Q) : WpB Try.prog A N c e H Q := h H h0
theorem hget_new {H : Heap} {ob : Ob} {L : List Ob} : hget (H ++ ob :: L) H.length = ob := by
  rw [hget_app0]; rfl
mutual
theorem cnt_lo : ∀ (r : Rx) (d : Nat) (left : Int), 0 ≤ left → (cntR r d left).2 ≤ left ∧ ((cntR r d left).1 = true → 0 ≤ (cntR r d left).2)
  | .mk k s l, d, left, h => by
    simp only [cntR]
    split
    · exact ⟨by simp only; omega, fun h => by cases h⟩
    · rename_i hc
      have := cntL_lo l (d - 1) (left - 1) (by omega)
      exact ⟨by omega, this.2⟩
theorem cntL_lo : ∀ (l : List Rx) (d : Nat) (left : Int), 0 ≤ left → (cntL l d left).2 ≤ left ∧ ((cntL l d left).1 = true → 0 ≤ (cntL l d left).2)
  | [], d, left, h => by simp [cntL, h]
  | r :: l, d, left, h => by
    simp only [cntL]
    have h1 := cnt_lo r d left h
    split
    · rename_i hc
      have h2 := cntL_lo l d _ (h1.2 hc)
      exact ⟨by omega, h2.2⟩
    · rename_i hc
      exact ⟨h1.1, fun h => by cases h⟩
end
theorem count_ok : ∀ (d : Nat) (hd : d ≤ 1000) (r : Rx) (hr : okR r) (left : Int) (h0 : 0 ≤ left) (h1 : left ≤ 1000) (H : Heap) (p : Nat) (hp : hget H p = .arr [.int .i64 left]),
    EvF Try.prog A 38 [rxD r, .int .i64 d, .ptr p 0 0] H (fun x H' => x = .bool (cntR r d left).1 ∧ PtrTo H H' p (.int .i64 (cntR r d left).2)) (fun _ _ => False) := by
  intro d
  induction d with
  | zero =>
    intro hd r hr left h0 h1 H p hp
    have hlt := lt_of_hget hp
    have hsh := shape_ok r hr
    have hst := strip1 (strip_rx r)
    obtain ⟨k, s, l⟩ := r
    have hcn : cntR (.mk k s l) 0 left = (false, left - 1) := by simp [cntR]
    rw [hcn]
    have c1 := rx_cells (.mk k s l)
    have c2 := rx_aggQ (.mk k s l)
    have c3 := rx_noTup (.mk k s l)
    generalize rxD (.mk k s l) = d at *
    refine evF_inB (n := 41) (rs := [.tmp 6]) Try.func38 rfl rfl rfl rfl rfl rfl ?_
    (refine wpB_seq ?_; refine wpB_regionL rfl ?_; simp (maxSteps := 1000000) (dsimp := false) (disch := omega) only [go_sem, simprocAttr, *])
    (refine wpB_seq ?_; refine wpB_regionL rfl ?_; simp (maxSteps := 1000000) (dsimp := false) (disch := omega) only [go_sem, simprocAttr, *, hget_app_lt])
    refine wpB_heap (fun H1 => hget H1 p = .arr [.int .i64 (left - 1)] ∧ PtrTo H H1 p (.int .i64 (left - 1))) ?_ ?_
    · refine ⟨hget_set_eq (by simp; omega), ⟨by simp, hget_set_eq (by simp; omega), fun k hk hne => ?_⟩⟩
      rw [hget_set_ne (by omega), hget_app_lt hk]
    · rintro H1 ⟨hp1, hPt⟩
      by_cases hl : left - 1 < 0
      · repeat' (first | refine wpB_seq ?_ | refine wpB_regionL rfl ?_ | refine wpB_block ?_ | refine wpB_skip ?_ | refine wpB_exit ?_ | refine wpB_ret ?_ | simp (maxSteps := 1000000) (dsimp := false) (disch := omega) only [go_sem, simprocAttr, *])
        refine wpB_cond (by simp (maxSteps := 1000000) (dsimp := false) (disch := omega) only [go_sem, simprocAttr, *]; exact rfl) (fun hb => ?_) (fun hb => ?_) <;> try simp (maxSteps := 1000000) (dsimp := false) (disch := omega) only [go_sem, simprocAttr, decide_eq_true_eq, decide_eq_false_iff_not, Bool.not_eq_true, Bool.not_eq_false, Int.not_lt, Int.not_le] at hb
        repeat' (first | refine wpB_seq ?_ | refine wpB_regionL rfl ?_ | refine wpB_block ?_ | refine wpB_skip ?_ | refine wpB_exit ?_ | refine wpB_ret ?_ | simp (maxSteps := 1000000) (dsimp := false) (disch := omega) only [go_sem, simprocAttr, *])
      · repeat' (first | refine wpB_seq ?_ | refine wpB_regionL rfl ?_ | refine wpB_block ?_ | refine wpB_skip ?_ | refine wpB_exit ?_ | refine wpB_ret ?_ | simp (maxSteps := 1000000) (dsimp := false) (disch := omega) only [go_sem, simprocAttr, *])
        refine wpB_cond (by simp (maxSteps := 1000000) (dsimp := false) (disch := omega) only [go_sem, simprocAttr, *]; exact rfl) (fun hb => ?_) (fun hb => ?_) <;> try simp (maxSteps := 1000000) (dsimp := false) (disch := omega) only [go_sem, simprocAttr, decide_eq_true_eq, decide_eq_false_iff_not, Bool.not_eq_true, Bool.not_eq_false, Int.not_lt, Int.not_le] at hb
        repeat' (first | refine wpB_seq ?_ | refine wpB_regionL rfl ?_ | refine wpB_block ?_ | refine wpB_skip ?_ | refine wpB_exit ?_ | refine wpB_ret ?_ | simp (maxSteps := 1000000) (dsimp := false) (disch := omega) only [go_sem, simprocAttr, *])
  | succ d ih =>
    intro hd r hr left h0 h1 H p hp
    have hlt := lt_of_hget hp
    have hsh := shape_ok r hr
    have hst := strip1 (strip_rx r)
    obtain ⟨k, s, l⟩ := r
    obtain ⟨_, _, _, _, hlen, hok⟩ := hr
    simp only [Rx.k, Rx.s, Rx.kids] at hsh
    refine evF_inB (n := 41) (rs := [.tmp 6]) Try.func38 rfl rfl rfl rfl rfl rfl ?_
    (refine wpB_seq ?_; refine wpB_regionL rfl ?_; simp (maxSteps := 1000000) (dsimp := false) (disch := omega) only [go_sem, simprocAttr, *])
    (refine wpB_seq ?_; refine wpB_regionL rfl ?_; simp (maxSteps := 1000000) (dsimp := false) (disch := omega) only [go_sem, simprocAttr, *, hget_app_lt])
    refine wpB_heap (fun H1 => hget H1 p = .arr [.int .i64 (left - 1)] ∧ PtrTo H H1 p (.int .i64 (left - 1)) ∧ hget H1 H.length = .arr [rxD (.mk k s l)] ∧ H.length < H1.length) ?_ ?_
    · refine ⟨hget_set_eq (by simp; omega), ⟨by simp, hget_set_eq (by simp; omega), fun k hk hne => ?_⟩, ?_, by simp⟩
      · rw [hget_set_ne (by omega), hget_app_lt hk]
      · rw [hget_set_ne (by omega), hget_new]; rfl
    · rintro H1 ⟨hp1, hPt, hq, hql⟩
      by_cases hl : left - 1 < 0
      · have hcn : cntR (.mk k s l) (d + 1) left = (false, left - 1) := by simp only [cntR]; rw [if_pos (.inl hl)]
        rw [hcn]
        repeat' (first | refine wpB_seq ?_ | refine wpB_regionL rfl ?_ | refine wpB_block ?_ | refine wpB_skip ?_ | refine wpB_exit ?_ | refine wpB_ret ?_ | simp (maxSteps := 1000000) (dsimp := false) (disch := omega) only [go_sem, simprocAttr, *])
        refine wpB_cond (by simp (maxSteps := 1000000) (dsimp := false) (disch := omega) only [go_sem, simprocAttr, *]; exact rfl) (fun hb => ?_) (fun hb => ?_) <;> try simp (maxSteps := 1000000) (dsimp := false) (disch := omega) only [go_sem, simprocAttr, decide_eq_true_eq, decide_eq_false_iff_not, Bool.not_eq_true, Bool.not_eq_false, Int.not_lt, Int.not_le] at hb
        repeat' (first | refine wpB_seq ?_ | refine wpB_regionL rfl ?_ | refine wpB_block ?_ | refine wpB_skip ?_ | refine wpB_exit ?_ | refine wpB_ret ?_ | simp (maxSteps := 1000000) (dsimp := false) (disch := omega) only [go_sem, simprocAttr, *])
      · cases hs : shape1 k s l.length with
        | false =>
          have hcn : cntR (.mk k s l) (d + 1) left = (false, left - 1) := by simp only [cntR]; rw [if_pos (.inr (.inr hs))]
          rw [hcn]
          rw [hs] at hsh
          repeat' (first | refine wpB_seq ?_ | refine wpB_regionL rfl ?_ | refine wpB_block ?_ | refine wpB_skip ?_ | refine wpB_exit ?_ | refine wpB_ret ?_ | simp (maxSteps := 1000000) (dsimp := false) (disch := omega) only [go_sem, simprocAttr, *])
          refine evB_plain bo45 rfl rfl hst hsh ?_
          simp (maxSteps := 1000000) (dsimp := false) (disch := omega) only [go_sem, simprocAttr, *]
          refine wpB_cond (by simp (maxSteps := 1000000) (dsimp := false) (disch := omega) only [go_sem, simprocAttr, *]; exact rfl) (fun hb => ?_) (fun hb => ?_) <;> try simp (maxSteps := 1000000) (dsimp := false) (disch := omega) only [go_sem, simprocAttr, decide_eq_true_eq, decide_eq_false_iff_not, Bool.not_eq_true, Bool.not_eq_false, Int.not_lt, Int.not_le] at hb
          repeat' (first | refine wpB_seq ?_ | refine wpB_regionL rfl ?_ | refine wpB_block ?_ | refine wpB_skip ?_ | refine wpB_exit ?_ | refine wpB_ret ?_ | simp (maxSteps := 1000000) (dsimp := false) (disch := omega) only [go_sem, simprocAttr, *])
        | true =>
          have hcn : cntR (.mk k s l) (d + 1) left = cntL l d (left - 1) := by simp only [cntR]; rw [if_neg (by simp [hs]; omega)]; rfl
          rw [hcn]
          rw [hs] at hsh
          clear hcn
          repeat' (first | refine wpB_seq ?_ | refine wpB_regionL rfl ?_ | refine wpB_block ?_ | refine wpB_skip ?_ | refine wpB_exit ?_ | refine wpB_ret ?_ | simp (maxSteps := 1000000) (dsimp := false) (disch := omega) only [go_sem, simprocAttr, *])
          refine evB_plain bo45 rfl rfl hst hsh ?_
          simp (maxSteps := 1000000) (dsimp := false) (disch := omega) only [go_sem, simprocAttr, *]
          refine wpB_cond (by simp (maxSteps := 1000000) (dsimp := false) (disch := omega) only [go_sem, simprocAttr, *]; exact rfl) (fun hb => ?_) (fun hb => ?_) <;> try simp (maxSteps := 1000000) (dsimp := false) (disch := omega) only [go_sem, simprocAttr, decide_eq_true_eq, decide_eq_false_iff_not, Bool.not_eq_true, Bool.not_eq_false, Int.not_lt, Int.not_le] at hb
          repeat' (first | refine wpB_seq ?_ | refine wpB_regionL rfl ?_ | refine wpB_block ?_ | refine wpB_skip ?_ | refine wpB_exit ?_ | refine wpB_ret ?_ | simp (maxSteps := 1000000) (dsimp := false) (disch := omega) only [go_sem, simprocAttr, *])
          refine wpB_loop (fun e H2 => ∃ j : Nat, j ≤ l.length ∧ e 1 = .int .i64 ((d : Int) + 1) ∧ e 2 = .ptr p 0 0 ∧ e 28 = .sl false (rxDs l) ∧ e 29 = .int .i64 l.length ∧ e 30 = .int .i64 j ∧ ∃ left' : Int, 0 ≤ left' ∧ left' ≤ 1000 ∧ PtrTo H H2 p (.int .i64 left') ∧ cntL l d (left - 1) = cntL (l.drop j) d left') (fun e H => l.length - natOf (e 30)) ?_ ?_
          · exact ⟨0, Nat.zero_le _, by simp (maxSteps := 1000000) (dsimp := false) (disch := omega) only [go_sem, simprocAttr, *], by simp (maxSteps := 1000000) (dsimp := false) (disch := omega) only [go_sem, simprocAttr, *], by simp (maxSteps := 1000000) (dsimp := false) (disch := omega) only [go_sem, simprocAttr, *], by simp (maxSteps := 1000000) (dsimp := false) (disch := omega) only [go_sem, simprocAttr, *], rfl, left - 1, by omega, by omega, hPt, by simp⟩
          · clear hq hql hPt hp1 hb hsh H1 
            rintro e H2 ⟨j, hj, e1, e2, e28, e29, e30, left', hl0, hl1, hPt, ha⟩ R hR
            repeat' (first | refine wpB_seq ?_ | refine wpB_regionL rfl ?_ | refine wpB_block ?_ | refine wpB_skip ?_ | refine wpB_exit ?_ | refine wpB_ret ?_ | simp (maxSteps := 1000000) (dsimp := false) (disch := omega) only [go_sem, simprocAttr, *])
            refine wpB_cond (by simp (maxSteps := 1000000) (dsimp := false) (disch := omega) only [go_sem, simprocAttr, *]; exact rfl) (fun hb2 => ?_) (fun hb2 => ?_) <;> try simp (maxSteps := 1000000) (dsimp := false) (disch := omega) only [go_sem, simprocAttr, decide_eq_true_eq, decide_eq_false_iff_not, Bool.not_eq_true, Bool.not_eq_false, Int.not_lt, Int.not_le] at hb2
            · rw [List.drop_eq_getElem_cons hb2] at ha
              simp only [cntL] at ha
              have hst2 := strip1 (strip_rx l[j])
              have hkid := okL_get hok _ (List.getElem_mem hb2)
              have c1 := rx_cells l[j]
              have c2 := rx_aggQ l[j]
              have c3 := rx_noTup l[j]
              have hlt2 := lt_of_hget hPt.at_
              have hlow : ∀ (L : List Ob), hget (H2 ++ L) p = .arr [.int .i64 left'] := fun L => by rw [hget_app_lt hlt2, hPt.at_]
              have ihj := ih (by omega) l[j] hkid left' hl0 hl1
              have hcl := cnt_lo l[j] d left' hl0
              obtain ⟨b, lf, hc⟩ : ∃ b lf, cntR l[j] d left' = (b, lf) := ⟨_, _, rfl⟩
              rw [hc] at ha hcl
              simp only [hc] at ihj
              repeat' (first | refine wpB_seq ?_ | refine wpB_regionL rfl ?_ | refine wpB_block ?_ | refine wpB_skip ?_ | refine wpB_exit ?_ | refine wpB_ret ?_ | simp (maxSteps := 1000000) (dsimp := false) (disch := omega) only [go_sem, simprocAttr, *])
              refine evB_state bo38 rfl rfl (ihj _ p (hlow _)) ?_ (fun _ _ h => h.elim)
              rintro _ H3 ⟨rfl, hP3⟩
              have hP : PtrTo H H3 p (.int .i64 lf) := ⟨by have := hPt.len; have := hP3.len; simp at this; omega, hP3.at_, fun k hk hne => by
                have h1 := hPt.len
                rw [hP3.low k (by simp; omega) hne, hget_app_lt (by omega), hPt.low k hk hne]⟩
              cases b with
              | false =>
                simp only [Bool.false_eq_true, if_false] at ha
                rw [ha]
                simp (maxSteps := 1000000) (dsimp := false) (disch := omega) only [go_sem, simprocAttr, *]
                refine wpB_cond (by simp (maxSteps := 1000000) (dsimp := false) (disch := omega) only [go_sem, simprocAttr, *]; exact rfl) (fun hb3 => ?_) (fun hb3 => ?_) <;> try simp (maxSteps := 1000000) (dsimp := false) (disch := omega) only [go_sem, simprocAttr, decide_eq_true_eq, decide_eq_false_iff_not, Bool.not_eq_true, Bool.not_eq_false, Int.not_lt, Int.not_le] at hb3
                repeat' (first | refine wpB_seq ?_ | refine wpB_regionL rfl ?_ | refine wpB_block ?_ | refine wpB_skip ?_ | refine wpB_exit ?_ | refine wpB_ret ?_ | simp (maxSteps := 1000000) (dsimp := false) (disch := omega) only [go_sem, simprocAttr, *])
              | true =>
                simp only [if_true] at ha hcl
                simp (maxSteps := 1000000) (dsimp := false) (disch := omega) only [go_sem, simprocAttr, *]
                refine wpB_cond (by simp (maxSteps := 1000000) (dsimp := false) (disch := omega) only [go_sem, simprocAttr, *]; exact rfl) (fun hb3 => ?_) (fun hb3 => ?_) <;> try simp (maxSteps := 1000000) (dsimp := false) (disch := omega) only [go_sem, simprocAttr, decide_eq_true_eq, decide_eq_false_iff_not, Bool.not_eq_true, Bool.not_eq_false, Int.not_lt, Int.not_le] at hb3
                repeat' (first | refine wpB_seq ?_ | refine wpB_regionL rfl ?_ | refine wpB_block ?_ | refine wpB_skip ?_ | refine wpB_exit ?_ | refine wpB_ret ?_ | simp (maxSteps := 1000000) (dsimp := false) (disch := omega) only [go_sem, simprocAttr, *])
                refine hR _ _ ⟨j + 1, by omega, by simp (maxSteps := 1000000) (dsimp := false) (disch := omega) only [go_sem, simprocAttr, *], by simp (maxSteps := 1000000) (dsimp := false) (disch := omega) only [go_sem, simprocAttr, *], by simp (maxSteps := 1000000) (dsimp := false) (disch := omega) only [go_sem, simprocAttr, *], by simp (maxSteps := 1000000) (dsimp := false) (disch := omega) only [go_sem, simprocAttr, *], by simp (maxSteps := 1000000) (dsimp := false) (disch := omega) only [go_sem, simprocAttr, *], lf, hcl.2 trivial, by omega, hP, ha⟩ ?_
                simp (maxSteps := 1000000) (dsimp := false) (disch := omega) only [go_sem, simprocAttr, *, natOf_int]
            · rw [List.drop_eq_nil_of_le (by omega)] at ha
              rw [ha]
              repeat' (first | refine wpB_seq ?_ | refine wpB_regionL rfl ?_ | refine wpB_block ?_ | refine wpB_skip ?_ | refine wpB_exit ?_ | refine wpB_ret ?_ | simp (maxSteps := 1000000) (dsimp := false) (disch := omega) only [go_sem, simprocAttr, *])
              exact ⟨rfl, hPt⟩
end Go.Proofs.W
end
/- Lists of numbers, for every chapter that does not speak of rules. -/
section
set_option maxHeartbeats 4000000
set_option linter.unusedVariables false
set_option linter.unusedSimpArgs false
namespace Go.Proofs.W
open Go Vm Go.Proofs.Zs06

def isD (l : List Int) : D := .sl false (l.map (.int .i64))
theorem strip_ints (l : List Int) : stripL (l.map (.int .i64)) = some (l.map (.int .i64)) := by
  induction l with
  | nil => rfl
  | cons q r ih => simp [stripL, ih, strip]
theorem strip_is (l : List Int) : strip (isD l) = some (isD l) := by simp [isD, strip, strip_ints]
theorem take_succ' {α : Type} {l : List α} {j : Nat} (h : j < l.length) : l.take (j + 1) = l.take j ++ [l[j]] := by rw [List.take_add_one, List.getElem?_eq_getElem h]; rfl
theorem headInts (l : List Int) : headSize 1 (l.map (D.int .i64)) = true := by cases l <;> rfl
theorem app_int {m : Nat} {d : D} {H : Heap} {l : List Int} (h : VecAt m d H (l.map (.int .i64))) (x : Int) (hl : l.length ≤ 1000000) : ∃ d' H', appendD Try.prog 27 (H ++ [Ob.arr [.int .i64 x]]) d (.vec H.length 0 1) = some (d', H') ∧ VecAt m d' H' ((l ++ [x]).map (.int .i64)) ∧ Same m H H' := by
  have := VecAt.append el27 sz3 by3 zr3 rfl (by decide) h (q := .int .i64 x) rfl rfl (headInts l) (by simp; omega)
  simpa using this
theorem ints_ok (a b : List Int) (ha : a.length ≤ 100000) : PureF Try.prog A 11 [isD a, isD b] (.bool (a == b)) := by
  refine evF_inB (n := 26) (rs := [.tmp 4]) Try.func11 rfl rfl rfl rfl rfl rfl ?_
  by_cases hab : a.length = b.length
  · have hz : (a == b) = (a.drop 0 == b.drop 0) := rfl
    rw [hz]
    generalize hG : (a.drop 0 == b.drop 0) = G
    clear hz
    repeat' (first | refine wpB_seq ?_ | refine wpB_regionL rfl ?_ | refine wpB_block ?_ | refine wpB_skip ?_ | refine wpB_exit ?_ | refine wpB_ret ?_ | simp (maxSteps := 1000000) (dsimp := false) (disch := omega) only [go_sem, simprocAttr, *, isD])
    refine wpB_cond (by simp (maxSteps := 1000000) (dsimp := false) (disch := omega) only [go_sem, simprocAttr, *]; exact rfl) (fun hb => ?_) (fun hb => ?_) <;> try simp (maxSteps := 1000000) (dsimp := false) (disch := omega) only [go_sem, simprocAttr, decide_eq_true_eq, decide_eq_false_iff_not, Bool.not_eq_true, Bool.not_eq_false, Int.not_lt, Int.not_le] at hb
    repeat' (first | refine wpB_seq ?_ | refine wpB_regionL rfl ?_ | refine wpB_block ?_ | refine wpB_skip ?_ | refine wpB_exit ?_ | refine wpB_ret ?_ | simp (maxSteps := 1000000) (dsimp := false) (disch := omega) only [go_sem, simprocAttr, *])
    refine wpB_loop (fun e H => ∃ (j : Nat), j ≤ a.length ∧ e 0 = isD a ∧ e 1 = isD b ∧ e 5 = .int .i64 j ∧ G = (a.drop j == b.drop j)) (fun e H => a.length - natOf (e 5)) ?_ ?_
    · exact ⟨0, Nat.zero_le _, by simp (maxSteps := 1000000) (dsimp := false) (disch := omega) only [go_sem, simprocAttr, *, isD], by simp (maxSteps := 1000000) (dsimp := false) (disch := omega) only [go_sem, simprocAttr, *, isD], rfl, hG.symm⟩
    · clear hG
      rintro e H ⟨j, hj, e0, e1, e5, ht⟩ R hR
      repeat' (first | refine wpB_seq ?_ | refine wpB_regionL rfl ?_ | refine wpB_block ?_ | refine wpB_skip ?_ | refine wpB_exit ?_ | refine wpB_ret ?_ | simp (maxSteps := 1000000) (dsimp := false) (disch := omega) only [go_sem, simprocAttr, *, isD])
      refine wpB_cond (by simp (maxSteps := 1000000) (dsimp := false) (disch := omega) only [go_sem, simprocAttr, *]; exact rfl) (fun hb => ?_) (fun hb => ?_) <;> try simp (maxSteps := 1000000) (dsimp := false) (disch := omega) only [go_sem, simprocAttr, decide_eq_true_eq, decide_eq_false_iff_not, Bool.not_eq_true, Bool.not_eq_false, Int.not_lt, Int.not_le] at hb
      · have hjb : j < b.length := by omega
        have hja : j < a.length := by omega
        rw [List.drop_eq_getElem_cons hja, List.drop_eq_getElem_cons hjb, List.cons_beq_cons] at ht
        by_cases hq : a[j] = b[j]
        · have hq' : (a[j] == b[j]) = true := by simp [hq]
          rw [hq', Bool.true_and] at ht
          clear hq'
          have hbq : (b[j] != b[j]) = false := by simp
          repeat' (first | refine wpB_seq ?_ | refine wpB_regionL rfl ?_ | refine wpB_block ?_ | refine wpB_skip ?_ | refine wpB_exit ?_ | refine wpB_ret ?_ | simp (maxSteps := 1000000) (dsimp := false) (disch := omega) only [go_sem, simprocAttr, *, isD])
          refine wpB_regionXL (prs := []) (by kernel_rfl) rfl (by kernel_rfl) ?_; simp (maxSteps := 1000000) (dsimp := false) (disch := omega) only [go_sem, simprocAttr, *, isD]
          refine wpB_cond (by simp (maxSteps := 1000000) (dsimp := false) (disch := omega) only [go_sem, simprocAttr, *]; exact rfl) (fun hb2 => ?_) (fun hb2 => ?_) <;> try simp (maxSteps := 1000000) (dsimp := false) (disch := omega) only [go_sem, simprocAttr, decide_eq_true_eq, decide_eq_false_iff_not, Bool.not_eq_true, Bool.not_eq_false, Int.not_lt, Int.not_le] at hb2
          repeat' (first | refine wpB_seq ?_ | refine wpB_regionL rfl ?_ | refine wpB_block ?_ | refine wpB_skip ?_ | refine wpB_exit ?_ | refine wpB_ret ?_ | simp (maxSteps := 1000000) (dsimp := false) (disch := omega) only [go_sem, simprocAttr, *])
          refine hR _ _ ⟨j + 1, by omega, by simp (maxSteps := 1000000) (dsimp := false) (disch := omega) only [go_sem, simprocAttr, *, isD], by simp (maxSteps := 1000000) (dsimp := false) (disch := omega) only [go_sem, simprocAttr, *, isD], by simp (maxSteps := 1000000) (dsimp := false) (disch := omega) only [go_sem, simprocAttr, *], ht⟩ ?_
          simp (maxSteps := 1000000) (dsimp := false) (disch := omega) only [go_sem, simprocAttr, *, natOf_int]
        · have hq' : (a[j] == b[j]) = false := by simp [hq]
          rw [hq', Bool.false_and] at ht
          rw [ht]
          clear hq'
          repeat' (first | refine wpB_seq ?_ | refine wpB_regionL rfl ?_ | refine wpB_block ?_ | refine wpB_skip ?_ | refine wpB_exit ?_ | refine wpB_ret ?_ | simp (maxSteps := 1000000) (dsimp := false) (disch := omega) only [go_sem, simprocAttr, *, isD])
          refine wpB_regionXL (prs := []) (by kernel_rfl) rfl (by kernel_rfl) ?_; simp (maxSteps := 1000000) (dsimp := false) (disch := omega) only [go_sem, simprocAttr, *, isD]
          refine wpB_cond (by simp (maxSteps := 1000000) (dsimp := false) (disch := omega) only [go_sem, simprocAttr, *]; exact rfl) (fun hb2 => ?_) (fun hb2 => ?_) <;> try simp (maxSteps := 1000000) (dsimp := false) (disch := omega) only [go_sem, simprocAttr, decide_eq_true_eq, decide_eq_false_iff_not, Bool.not_eq_true, Bool.not_eq_false, Int.not_lt, Int.not_le] at hb2
          repeat' (first | refine wpB_seq ?_ | refine wpB_regionL rfl ?_ | refine wpB_block ?_ | refine wpB_skip ?_ | refine wpB_exit ?_ | refine wpB_ret ?_ | simp (maxSteps := 1000000) (dsimp := false) (disch := omega) only [go_sem, simprocAttr, *])
          try rfl
      · rw [List.drop_eq_nil_of_le (by omega), List.drop_eq_nil_of_le (by omega)] at ht
        have : G = true := ht
        rw [this]
        repeat' (first | refine wpB_seq ?_ | refine wpB_regionL rfl ?_ | refine wpB_block ?_ | refine wpB_skip ?_ | refine wpB_exit ?_ | refine wpB_ret ?_ | simp (maxSteps := 1000000) (dsimp := false) (disch := omega) only [go_sem, simprocAttr, *])
        try rfl
  · have hz : (a == b) = false := by simp; rintro rfl; exact hab rfl
    rw [hz]
    repeat' (first | refine wpB_seq ?_ | refine wpB_regionL rfl ?_ | refine wpB_block ?_ | refine wpB_skip ?_ | refine wpB_exit ?_ | refine wpB_ret ?_ | simp (maxSteps := 1000000) (dsimp := false) (disch := omega) only [go_sem, simprocAttr, *, isD])
    refine wpB_cond (by simp (maxSteps := 1000000) (dsimp := false) (disch := omega) only [go_sem, simprocAttr, *]; exact rfl) (fun hb => ?_) (fun hb => ?_) <;> try simp (maxSteps := 1000000) (dsimp := false) (disch := omega) only [go_sem, simprocAttr, decide_eq_true_eq, decide_eq_false_iff_not, Bool.not_eq_true, Bool.not_eq_false, Int.not_lt, Int.not_le] at hb
    repeat' (first | refine wpB_seq ?_ | refine wpB_regionL rfl ?_ | refine wpB_block ?_ | refine wpB_skip ?_ | refine wpB_exit ?_ | refine wpB_ret ?_ | simp (maxSteps := 1000000) (dsimp := false) (disch := omega) only [go_sem, simprocAttr, *])
    try rfl
theorem pures_vec {m : Nat} {a v : D} {H : Heap} {xs : List D} (h : VecAt m v H xs) (hs : stripL xs = some xs) (ha : strip a = some a) : ∃ H', pures H [a, v] = some ([a, .sl false xs], H') := by
  obtain ⟨H', hp⟩ := h.pur (k := 4) hs
  refine ⟨H', ?_⟩
  simp only [pures, deepest, purL, pur_strip ha, Option.bind_some, hp, Option.map_some]
end Go.Proofs.W
end
/- Machines with free steps: what they are as data; whether one may be. -/
section
set_option maxHeartbeats 4000000
set_option linter.unusedVariables false
set_option linter.unusedSimpArgs false
namespace Go.Proofs.W
open Go Vm Go.Proofs.Zs06

/-- all numbers from one on -/
def allN (p : Nat → Bool) : Nat → Nat → Bool
  | _, 0 => true
  | j, m + 1 => p j && allN p (j + 1) m
theorem allN_iff {p : Nat → Bool} : ∀ {m j : Nat}, allN p j m = true ↔ ∀ i, j ≤ i → i < j + m → p i = true
  | 0, j => by simp [allN]; intro i h1 h2; omega
  | m + 1, j => by
    simp only [allN, Bool.and_eq_true, allN_iff (m := m)]
    constructor
    · rintro ⟨h0, h⟩ i h1 h2
      by_cases e : i = j
      · subst e; exact h0
      · exact h i (by omega) (by omega)
    · intro h
      exact ⟨h j (Nat.le_refl _) (by omega), fun i h1 h2 => h i (by omega) (by omega)⟩
structure Nfa where
  free : List (List Int)
  set : List Int
  to : List Int
  rule : List Int
def u16D (l : List Int) : D := .sl false (l.map (.int .u16))
def issD (l : List (List Int)) : D := .sl false (l.map isD)
def nfaD (n : Nfa) : D := .agg [issD n.free, u16D n.set, isD n.to, isD n.rule]
theorem strip_u16s (l : List Int) : stripL (l.map (.int .u16)) = some (l.map (.int .u16)) := by
  induction l with
  | nil => rfl
  | cons q r ih => simp [stripL, ih, strip]
theorem strip_iss (l : List (List Int)) : stripL (l.map isD) = some (l.map isD) := by
  induction l with
  | nil => rfl
  | cons q r ih => simp [stripL, ih, strip_is]
theorem strip_issD (l : List (List Int)) : strip (issD l) = some (issD l) := by simp [issD, strip, strip_iss]
theorem strip_u16D (l : List Int) : strip (u16D l) = some (u16D l) := by simp [u16D, strip, strip_u16s]
theorem strip_nfa (n : Nfa) : strip (nfaD n) = some (nfaD n) := by simp [nfaD, strip, stripL, strip_issD, strip_u16D, strip_is]
/-- is it a state? -/
def isS (k : Nat) (s : Int) : Bool := decide (0 ≤ s) && decide (s < k)
theorem isS_iff {k : Nat} {s : Int} : isS k s = true ↔ 0 ≤ s ∧ s < k := by simp [isS]
def rowOk (n : Nfa) (i : Nat) : Bool :=
  !(decide (n.set.getD i 0 ≠ 0) && !isS n.set.length (n.to.getD i 0)) && decide (-1 ≤ n.rule.getD i 0) && decide (n.rule.getD i 0 < 16) && (n.free.getD i []).all (isS n.set.length)
def rightN (n : Nfa) : Bool := decide (1 ≤ n.set.length ∧ n.set.length ≤ 3300 ∧ n.free.length = n.set.length ∧ n.to.length = n.set.length ∧ n.rule.length = n.set.length) && allN (rowOk n) 0 n.set.length
theorem is_at {l : List Int} {i : Nat} : (l.map (D.int .i64))[i]? = (l[i]?).map (.int .i64) := by simp
theorem ex_at {α : Type} {l : List α} {i : Nat} (d : α) (h : i < l.length) : ∃ x, l[i]? = some x ∧ l.getD i d = x := ⟨l[i], List.getElem?_eq_getElem h, by simp [List.getD, h]⟩
theorem right1_ok (s : Int) (k r : Nat) (H : Heap) (hg : hget H r = .arr [.int .i64 k]) : EvF Try.prog A 34 [.int .i64 s, .ptr r 0 0] H (fun d H' => d = .bool (isS k s) ∧ H' = H) (fun _ _ => False) := by
  refine evF_inB (n := 11) (rs := [.tmp 3]) Try.func34 rfl rfl rfl rfl rfl rfl ?_
  by_cases h0 : 0 ≤ s
  · by_cases h1 : s < k
    · repeat' (first | refine wpB_seq ?_ | refine wpB_regionL rfl ?_ | refine wpB_block ?_ | refine wpB_skip ?_ | refine wpB_exit ?_ | refine wpB_ret ?_ | simp (maxSteps := 1000000) (dsimp := false) (disch := omega) only [go_sem, simprocAttr, *, isS])
    · repeat' (first | refine wpB_seq ?_ | refine wpB_regionL rfl ?_ | refine wpB_block ?_ | refine wpB_skip ?_ | refine wpB_exit ?_ | refine wpB_ret ?_ | simp (maxSteps := 1000000) (dsimp := false) (disch := omega) only [go_sem, simprocAttr, *, isS])
  · repeat' (first | refine wpB_seq ?_ | refine wpB_regionL rfl ?_ | refine wpB_block ?_ | refine wpB_skip ?_ | refine wpB_exit ?_ | refine wpB_ret ?_ | simp (maxSteps := 1000000) (dsimp := false) (disch := omega) only [go_sem, simprocAttr, *, isS])
theorem isRow {n : Nfa} {i : Nat} (h : i < n.free.length) : (n.free.map isD)[i]? = some (isD n.free[i]) := by simp [h]
theorem allL_drop {p : Int → Bool} {l : List Int} {j : Nat} (h : j < l.length) : (l.drop j).all p = (p l[j] && (l.drop (j + 1)).all p) := by
  rw [List.drop_eq_getElem_cons h]; rfl
theorem nright_ok (n : Nfa) (hs : n.set.length ≤ 1000000) (hf : ∀ l ∈ n.free, l.length ≤ 1000000) : PureF Try.prog A 15 [nfaD n] (.bool (rightN n)) := by
  refine evF_inB (n := 91) (rs := [.tmp 2]) Try.func15 rfl rfl rfl rfl rfl rfl ?_
  by_cases c1 : n.set.length = 0
  · have hz : rightN n = false := by simp [rightN, c1]
    rw [hz]
    repeat' (first | refine wpB_seq ?_ | refine wpB_regionL rfl ?_ | refine wpB_block ?_ | refine wpB_skip ?_ | refine wpB_exit ?_ | refine wpB_ret ?_ | simp (maxSteps := 1000000) (dsimp := false) (disch := omega) only [go_sem, simprocAttr, *, nfaD, u16D])
    refine wpB_cond (by simp (maxSteps := 1000000) (dsimp := false) (disch := omega) only [go_sem, simprocAttr, *]; exact rfl) (fun hb => ?_) (fun hb => ?_) <;> try simp (maxSteps := 1000000) (dsimp := false) (disch := omega) only [go_sem, simprocAttr, decide_eq_true_eq, decide_eq_false_iff_not, Bool.not_eq_true, Bool.not_eq_false, Int.not_lt, Int.not_le] at hb
    repeat' (first | refine wpB_seq ?_ | refine wpB_regionL rfl ?_ | refine wpB_block ?_ | refine wpB_skip ?_ | refine wpB_exit ?_ | refine wpB_ret ?_ | simp (maxSteps := 1000000) (dsimp := false) (disch := omega) only [go_sem, simprocAttr, *])
    try rfl
  by_cases c2 : n.set.length ≤ 3300
  case neg =>
    have hz : rightN n = false := by simp [rightN, c2]
    rw [hz]
    repeat' (first | refine wpB_seq ?_ | refine wpB_regionL rfl ?_ | refine wpB_block ?_ | refine wpB_skip ?_ | refine wpB_exit ?_ | refine wpB_ret ?_ | simp (maxSteps := 1000000) (dsimp := false) (disch := omega) only [go_sem, simprocAttr, *, nfaD, u16D])
    refine wpB_cond (by simp (maxSteps := 1000000) (dsimp := false) (disch := omega) only [go_sem, simprocAttr, *]; exact rfl) (fun hb => ?_) (fun hb => ?_) <;> try simp (maxSteps := 1000000) (dsimp := false) (disch := omega) only [go_sem, simprocAttr, decide_eq_true_eq, decide_eq_false_iff_not, Bool.not_eq_true, Bool.not_eq_false, Int.not_lt, Int.not_le] at hb
    repeat' (first | refine wpB_seq ?_ | refine wpB_regionL rfl ?_ | refine wpB_block ?_ | refine wpB_skip ?_ | refine wpB_exit ?_ | refine wpB_ret ?_ | simp (maxSteps := 1000000) (dsimp := false) (disch := omega) only [go_sem, simprocAttr, *])
    try rfl
  by_cases c3 : n.free.length = n.set.length
  case neg =>
    have hz : rightN n = false := by simp [rightN, c3]
    rw [hz]
    repeat' (first | refine wpB_seq ?_ | refine wpB_regionL rfl ?_ | refine wpB_block ?_ | refine wpB_skip ?_ | refine wpB_exit ?_ | refine wpB_ret ?_ | simp (maxSteps := 1000000) (dsimp := false) (disch := omega) only [go_sem, simprocAttr, *, nfaD, u16D, issD])
    refine wpB_cond (by simp (maxSteps := 1000000) (dsimp := false) (disch := omega) only [go_sem, simprocAttr, *]; exact rfl) (fun hb => ?_) (fun hb => ?_) <;> try simp (maxSteps := 1000000) (dsimp := false) (disch := omega) only [go_sem, simprocAttr, decide_eq_true_eq, decide_eq_false_iff_not, Bool.not_eq_true, Bool.not_eq_false, Int.not_lt, Int.not_le] at hb
    repeat' (first | refine wpB_seq ?_ | refine wpB_regionL rfl ?_ | refine wpB_block ?_ | refine wpB_skip ?_ | refine wpB_exit ?_ | refine wpB_ret ?_ | simp (maxSteps := 1000000) (dsimp := false) (disch := omega) only [go_sem, simprocAttr, *])
    try rfl
  by_cases c4 : n.to.length = n.set.length
  case neg =>
    have hz : rightN n = false := by simp [rightN, c4]
    rw [hz]
    repeat' (first | refine wpB_seq ?_ | refine wpB_regionL rfl ?_ | refine wpB_block ?_ | refine wpB_skip ?_ | refine wpB_exit ?_ | refine wpB_ret ?_ | simp (maxSteps := 1000000) (dsimp := false) (disch := omega) only [go_sem, simprocAttr, *, nfaD, u16D, issD, isD])
    refine wpB_cond (by simp (maxSteps := 1000000) (dsimp := false) (disch := omega) only [go_sem, simprocAttr, *]; exact rfl) (fun hb => ?_) (fun hb => ?_) <;> try simp (maxSteps := 1000000) (dsimp := false) (disch := omega) only [go_sem, simprocAttr, decide_eq_true_eq, decide_eq_false_iff_not, Bool.not_eq_true, Bool.not_eq_false, Int.not_lt, Int.not_le] at hb
    repeat' (first | refine wpB_seq ?_ | refine wpB_regionL rfl ?_ | refine wpB_block ?_ | refine wpB_skip ?_ | refine wpB_exit ?_ | refine wpB_ret ?_ | simp (maxSteps := 1000000) (dsimp := false) (disch := omega) only [go_sem, simprocAttr, *])
    try rfl
  by_cases c5 : n.rule.length = n.set.length
  case neg =>
    have hz : rightN n = false := by simp [rightN, c5]
    rw [hz]
    repeat' (first | refine wpB_seq ?_ | refine wpB_regionL rfl ?_ | refine wpB_block ?_ | refine wpB_skip ?_ | refine wpB_exit ?_ | refine wpB_ret ?_ | simp (maxSteps := 1000000) (dsimp := false) (disch := omega) only [go_sem, simprocAttr, *, nfaD, u16D, issD, isD])
    refine wpB_cond (by simp (maxSteps := 1000000) (dsimp := false) (disch := omega) only [go_sem, simprocAttr, *]; exact rfl) (fun hb => ?_) (fun hb => ?_) <;> try simp (maxSteps := 1000000) (dsimp := false) (disch := omega) only [go_sem, simprocAttr, decide_eq_true_eq, decide_eq_false_iff_not, Bool.not_eq_true, Bool.not_eq_false, Int.not_lt, Int.not_le] at hb
    repeat' (first | refine wpB_seq ?_ | refine wpB_regionL rfl ?_ | refine wpB_block ?_ | refine wpB_skip ?_ | refine wpB_exit ?_ | refine wpB_ret ?_ | simp (maxSteps := 1000000) (dsimp := false) (disch := omega) only [go_sem, simprocAttr, *])
    try rfl
  have hz : rightN n = allN (rowOk n) 0 n.set.length := by simp [rightN, c2, c3, c4, c5]; omega
  rw [hz]
  generalize hG : allN (rowOk n) 0 n.set.length = G
  clear hz
  repeat' (first | refine wpB_seq ?_ | refine wpB_regionL rfl ?_ | refine wpB_block ?_ | refine wpB_skip ?_ | refine wpB_exit ?_ | refine wpB_ret ?_ | simp (maxSteps := 1000000) (dsimp := false) (disch := omega) only [go_sem, simprocAttr, *, nfaD, u16D, issD, isD])
  refine wpB_cond (by simp (maxSteps := 1000000) (dsimp := false) (disch := omega) only [go_sem, simprocAttr, *]; exact rfl) (fun hb => ?_) (fun hb => ?_) <;> try simp (maxSteps := 1000000) (dsimp := false) (disch := omega) only [go_sem, simprocAttr, decide_eq_true_eq, decide_eq_false_iff_not, Bool.not_eq_true, Bool.not_eq_false, Int.not_lt, Int.not_le] at hb
  repeat' (first | refine wpB_seq ?_ | refine wpB_regionL rfl ?_ | refine wpB_block ?_ | refine wpB_skip ?_ | refine wpB_exit ?_ | refine wpB_ret ?_ | simp (maxSteps := 1000000) (dsimp := false) (disch := omega) only [go_sem, simprocAttr, *, nfaD, u16D, issD, isD])
  let H0 : Heap := [Ob.arr [nfaD n], Ob.arr [.int .i64 n.set.length]]
  refine wpB_loop (fun e H => ∃ j m : Nat, j + m = n.set.length ∧ H = H0 ∧ e 1 = .ptr 0 0 0 ∧ e 3 = .ptr 1 0 0 ∧ e 4 = .fn 34 [.ptr 1 0 0] ∧ e 39 = .int .i64 n.set.length ∧ e 40 = .int .i64 j ∧ G = allN (rowOk n) j m) (fun e H => n.set.length - natOf (e 40)) ?_ ?_
  · exact ⟨0, n.set.length, by omega, rfl, by simp (maxSteps := 1000000) (dsimp := false) (disch := omega) only [go_sem, simprocAttr, *], by simp (maxSteps := 1000000) (dsimp := false) (disch := omega) only [go_sem, simprocAttr, *], by simp (maxSteps := 1000000) (dsimp := false) (disch := omega) only [go_sem, simprocAttr, *], by simp (maxSteps := 1000000) (dsimp := false) (disch := omega) only [go_sem, simprocAttr, *], by simp (maxSteps := 1000000) (dsimp := false) (disch := omega) only [go_sem, simprocAttr, *], hG.symm⟩
  clear hG
  rintro e H ⟨j, m, hj, rfl, e1, e3, e4, e39, e40, ha⟩ R hR
  simp only [H0]
  repeat' (first | refine wpB_seq ?_ | refine wpB_regionL rfl ?_ | refine wpB_block ?_ | refine wpB_skip ?_ | refine wpB_exit ?_ | refine wpB_ret ?_ | simp (maxSteps := 1000000) (dsimp := false) (disch := omega) only [go_sem, simprocAttr, *, nfaD, u16D, issD, isD])
  refine wpB_cond (by simp (maxSteps := 1000000) (dsimp := false) (disch := omega) only [go_sem, simprocAttr, *]; exact rfl) (fun hb => ?_) (fun hb => ?_) <;> try simp (maxSteps := 1000000) (dsimp := false) (disch := omega) only [go_sem, simprocAttr, decide_eq_true_eq, decide_eq_false_iff_not, Bool.not_eq_true, Bool.not_eq_false, Int.not_lt, Int.not_le] at hb
  · obtain ⟨m, rfl⟩ : ∃ x, m = x + 1 := ⟨m - 1, by omega⟩
    obtain ⟨s, hs1, hs2⟩ := ex_at (l := n.set) (i := j) 0 (by omega)
    obtain ⟨t, ht1, ht2⟩ := ex_at (l := n.to) (i := j) 0 (by omega)
    obtain ⟨ru, hr1, hr2⟩ := ex_at (l := n.rule) (i := j) 0 (by omega)
    obtain ⟨fr, hf1, hf2⟩ := ex_at (l := n.free) (i := j) [] (by omega)
    have hrow : allN (rowOk n) j (m + 1) = ((!(decide (s ≠ 0) && !isS n.set.length t) && decide (-1 ≤ ru) && decide (ru < 16) && fr.all (isS n.set.length)) && allN (rowOk n) (j + 1) m) := by simp only [allN, rowOk, hs2, ht2, hr2, hf2]
    rw [hrow] at ha
    clear hrow hs2 ht2 hr2 hf2
    rcases (by by_cases hs0 : s = 0; exact .inl hs0; by_cases hi : isS n.set.length t = true; exact .inr (.inr ⟨hs0, hi⟩); exact .inr (.inl ⟨hs0, by simpa using hi⟩) : s = 0 ∨ (s ≠ 0 ∧ isS n.set.length t = false) ∨ (s ≠ 0 ∧ isS n.set.length t = true)) with hs0 | ⟨hs0, hi⟩ | ⟨hs0, hi⟩
    rotate_left
    · have : G = false := by rw [ha, hi]; simp [hs0]
      rw [this]
      clear ha this
      repeat' (first | refine wpB_seq ?_ | refine wpB_regionL rfl ?_ | refine wpB_block ?_ | refine wpB_skip ?_ | refine wpB_exit ?_ | refine wpB_ret ?_ | simp (maxSteps := 1000000) (dsimp := false) (disch := omega) only [go_sem, simprocAttr, *, nfaD, u16D, issD, isD])
      refine evB_state bo34 rfl rfl (right1_ok _ n.set.length _ _ rfl) ?_ (fun _ _ h => h.elim)
      rintro d H' ⟨rfl, rfl⟩
      simp (maxSteps := 1000000) (dsimp := false) (disch := omega) only [go_sem, simprocAttr, *]
      refine wpB_cond (by simp (maxSteps := 1000000) (dsimp := false) (disch := omega) only [go_sem, simprocAttr, *]; exact rfl) (fun hb2 => ?_) (fun hb2 => ?_) <;> try simp (maxSteps := 1000000) (dsimp := false) (disch := omega) only [go_sem, simprocAttr, decide_eq_true_eq, decide_eq_false_iff_not, Bool.not_eq_true, Bool.not_eq_false, Int.not_lt, Int.not_le] at hb2
      repeat' (first | refine wpB_seq ?_ | refine wpB_regionL rfl ?_ | refine wpB_block ?_ | refine wpB_skip ?_ | refine wpB_exit ?_ | refine wpB_ret ?_ | simp (maxSteps := 1000000) (dsimp := false) (disch := omega) only [go_sem, simprocAttr, *])
      try rfl
    · replace ha : G = ((decide (-1 ≤ ru) && decide (ru < 16) && fr.all (isS n.set.length)) && allN (rowOk n) (j + 1) m) := by rw [ha, hi]; simp [hs0]
      rcases (by by_cases h1 : ru < -1; exact .inl h1; by_cases h2 : ru < 16; exact .inr (.inr ⟨h1, h2⟩); exact .inr (.inl ⟨h1, h2⟩) : ru < -1 ∨ (¬ ru < -1 ∧ ¬ ru < 16) ∨ (¬ ru < -1 ∧ ru < 16)) with h1 | ⟨h1, h2⟩ | ⟨h1, h2⟩
      · have hx : G = false := by rw [ha]; simp; omega
        rw [hx]
        clear ha hx
        repeat' (first | refine wpB_seq ?_ | refine wpB_regionL rfl ?_ | refine wpB_block ?_ | refine wpB_skip ?_ | refine wpB_exit ?_ | refine wpB_ret ?_ | simp (maxSteps := 1000000) (dsimp := false) (disch := omega) only [go_sem, simprocAttr, *, nfaD, u16D, issD, isD])
        refine evB_state bo34 rfl rfl (right1_ok _ n.set.length _ _ rfl) ?_ (fun _ _ h => h.elim); rintro d H' ⟨rfl, rfl⟩; simp (maxSteps := 1000000) (dsimp := false) (disch := omega) only [go_sem, simprocAttr, *]
        refine wpB_cond (by simp (maxSteps := 1000000) (dsimp := false) (disch := omega) only [go_sem, simprocAttr, *]; exact rfl) (fun hb2 => ?_) (fun hb2 => ?_) <;> try simp (maxSteps := 1000000) (dsimp := false) (disch := omega) only [go_sem, simprocAttr, decide_eq_true_eq, decide_eq_false_iff_not, Bool.not_eq_true, Bool.not_eq_false, Int.not_lt, Int.not_le] at hb2
        repeat' (first | refine wpB_seq ?_ | refine wpB_regionL rfl ?_ | refine wpB_block ?_ | refine wpB_skip ?_ | refine wpB_exit ?_ | refine wpB_ret ?_ | simp (maxSteps := 1000000) (dsimp := false) (disch := omega) only [go_sem, simprocAttr, *])
        try rfl
      · have hx : G = false := by rw [ha]; simp; omega
        rw [hx]
        clear ha hx
        repeat' (first | refine wpB_seq ?_ | refine wpB_regionL rfl ?_ | refine wpB_block ?_ | refine wpB_skip ?_ | refine wpB_exit ?_ | refine wpB_ret ?_ | simp (maxSteps := 1000000) (dsimp := false) (disch := omega) only [go_sem, simprocAttr, *, nfaD, u16D, issD, isD])
        refine evB_state bo34 rfl rfl (right1_ok _ n.set.length _ _ rfl) ?_ (fun _ _ h => h.elim); rintro d H' ⟨rfl, rfl⟩; simp (maxSteps := 1000000) (dsimp := false) (disch := omega) only [go_sem, simprocAttr, *]
        refine wpB_cond (by simp (maxSteps := 1000000) (dsimp := false) (disch := omega) only [go_sem, simprocAttr, *]; exact rfl) (fun hb2 => ?_) (fun hb2 => ?_) <;> try simp (maxSteps := 1000000) (dsimp := false) (disch := omega) only [go_sem, simprocAttr, decide_eq_true_eq, decide_eq_false_iff_not, Bool.not_eq_true, Bool.not_eq_false, Int.not_lt, Int.not_le] at hb2
        repeat' (first | refine wpB_seq ?_ | refine wpB_regionL rfl ?_ | refine wpB_block ?_ | refine wpB_skip ?_ | refine wpB_exit ?_ | refine wpB_ret ?_ | simp (maxSteps := 1000000) (dsimp := false) (disch := omega) only [go_sem, simprocAttr, *])
        try rfl
      · replace ha : G = (fr.all (isS n.set.length) && allN (rowOk n) (j + 1) m) := by rw [ha, show decide (-1 ≤ ru) = true by simp; omega, show decide (ru < 16) = true by simp; omega]; rfl
        repeat' (first | refine wpB_seq ?_ | refine wpB_regionL rfl ?_ | refine wpB_block ?_ | refine wpB_skip ?_ | refine wpB_exit ?_ | refine wpB_ret ?_ | simp (maxSteps := 1000000) (dsimp := false) (disch := omega) only [go_sem, simprocAttr, *, nfaD, u16D, issD, isD])
        refine evB_state bo34 rfl rfl (right1_ok _ n.set.length _ _ rfl) ?_ (fun _ _ h => h.elim); rintro d H' ⟨rfl, rfl⟩; simp (maxSteps := 1000000) (dsimp := false) (disch := omega) only [go_sem, simprocAttr, *]
        refine wpB_cond (by simp (maxSteps := 1000000) (dsimp := false) (disch := omega) only [go_sem, simprocAttr, *]; exact rfl) (fun hb2 => ?_) (fun hb2 => ?_) <;> try simp (maxSteps := 1000000) (dsimp := false) (disch := omega) only [go_sem, simprocAttr, decide_eq_true_eq, decide_eq_false_iff_not, Bool.not_eq_true, Bool.not_eq_false, Int.not_lt, Int.not_le] at hb2
        repeat' (first | refine wpB_seq ?_ | refine wpB_regionL rfl ?_ | refine wpB_block ?_ | refine wpB_skip ?_ | refine wpB_exit ?_ | refine wpB_ret ?_ | simp (maxSteps := 1000000) (dsimp := false) (disch := omega) only [go_sem, simprocAttr, *, nfaD, u16D, issD, isD])
        have hfl : fr.length ≤ 1000000 := hf fr (List.mem_of_getElem? hf1)
        have hi0 : G = ((fr.drop 0).all (isS n.set.length) && allN (rowOk n) (j + 1) m) := ha
        clear ha
        refine wpB_loop (fun e H => ∃ i : Nat, i ≤ fr.length ∧ H = H0 ∧ e 1 = .ptr 0 0 0 ∧ e 3 = .ptr 1 0 0 ∧ e 4 = .fn 34 [.ptr 1 0 0] ∧ e 39 = .int .i64 n.set.length ∧ e 40 = .int .i64 j ∧ e 79 = isD fr ∧ e 80 = .int .i64 fr.length ∧ e 81 = .int .i64 i ∧ G = ((fr.drop i).all (isS n.set.length) && allN (rowOk n) (j + 1) m)) (fun e H => fr.length - natOf (e 81)) ?_ ?_
        · exact ⟨0, Nat.zero_le _, rfl, by simp (maxSteps := 1000000) (dsimp := false) (disch := omega) only [go_sem, simprocAttr, *], by simp (maxSteps := 1000000) (dsimp := false) (disch := omega) only [go_sem, simprocAttr, *], by simp (maxSteps := 1000000) (dsimp := false) (disch := omega) only [go_sem, simprocAttr, *], by simp (maxSteps := 1000000) (dsimp := false) (disch := omega) only [go_sem, simprocAttr, *], by simp (maxSteps := 1000000) (dsimp := false) (disch := omega) only [go_sem, simprocAttr, *], by simp (maxSteps := 1000000) (dsimp := false) (disch := omega) only [go_sem, simprocAttr, *, isD], by simp (maxSteps := 1000000) (dsimp := false) (disch := omega) only [go_sem, simprocAttr, *], by simp (maxSteps := 1000000) (dsimp := false) (disch := omega) only [go_sem, simprocAttr, *], hi0⟩
        · clear hi0
          rintro e' H ⟨i, hi, rfl, e1, e3, e4, e39, e40, e79, e80, e81, ha⟩ R2 hR2
          simp only [H0]
          repeat' (first | refine wpB_seq ?_ | refine wpB_regionL rfl ?_ | refine wpB_block ?_ | refine wpB_skip ?_ | refine wpB_exit ?_ | refine wpB_ret ?_ | simp (maxSteps := 1000000) (dsimp := false) (disch := omega) only [go_sem, simprocAttr, *])
          refine wpB_cond (by simp (maxSteps := 1000000) (dsimp := false) (disch := omega) only [go_sem, simprocAttr, *]; exact rfl) (fun hb3 => ?_) (fun hb3 => ?_) <;> try simp (maxSteps := 1000000) (dsimp := false) (disch := omega) only [go_sem, simprocAttr, decide_eq_true_eq, decide_eq_false_iff_not, Bool.not_eq_true, Bool.not_eq_false, Int.not_lt, Int.not_le] at hb3
          · rw [allL_drop hb3] at ha
            repeat' (first | refine wpB_seq ?_ | refine wpB_regionL rfl ?_ | refine wpB_block ?_ | refine wpB_skip ?_ | refine wpB_exit ?_ | refine wpB_ret ?_ | simp (maxSteps := 1000000) (dsimp := false) (disch := omega) only [go_sem, simprocAttr, *, isD])
            refine evB_state bo34 rfl rfl (right1_ok _ n.set.length _ _ rfl) ?_ (fun _ _ h => h.elim)
            rintro d H' ⟨rfl, rfl⟩
            cases hq : isS n.set.length fr[i] with
            | true =>
              rw [hq, Bool.true_and] at ha
              simp (maxSteps := 1000000) (dsimp := false) (disch := omega) only [go_sem, simprocAttr, *]
              refine wpB_cond (by simp (maxSteps := 1000000) (dsimp := false) (disch := omega) only [go_sem, simprocAttr, *]; exact rfl) (fun hb4 => ?_) (fun hb4 => ?_) <;> try simp (maxSteps := 1000000) (dsimp := false) (disch := omega) only [go_sem, simprocAttr, decide_eq_true_eq, decide_eq_false_iff_not, Bool.not_eq_true, Bool.not_eq_false, Int.not_lt, Int.not_le] at hb4
              repeat' (first | refine wpB_seq ?_ | refine wpB_regionL rfl ?_ | refine wpB_block ?_ | refine wpB_skip ?_ | refine wpB_exit ?_ | refine wpB_ret ?_ | simp (maxSteps := 1000000) (dsimp := false) (disch := omega) only [go_sem, simprocAttr, *])
              refine hR2 _ _ ⟨i + 1, by omega, rfl, by simp (maxSteps := 1000000) (dsimp := false) (disch := omega) only [go_sem, simprocAttr, *], by simp (maxSteps := 1000000) (dsimp := false) (disch := omega) only [go_sem, simprocAttr, *], by simp (maxSteps := 1000000) (dsimp := false) (disch := omega) only [go_sem, simprocAttr, *], by simp (maxSteps := 1000000) (dsimp := false) (disch := omega) only [go_sem, simprocAttr, *], by simp (maxSteps := 1000000) (dsimp := false) (disch := omega) only [go_sem, simprocAttr, *], by simp (maxSteps := 1000000) (dsimp := false) (disch := omega) only [go_sem, simprocAttr, *], by simp (maxSteps := 1000000) (dsimp := false) (disch := omega) only [go_sem, simprocAttr, *], by simp (maxSteps := 1000000) (dsimp := false) (disch := omega) only [go_sem, simprocAttr, *], ha⟩ ?_
              simp (maxSteps := 1000000) (dsimp := false) (disch := omega) only [go_sem, simprocAttr, *, natOf_int]
            | false =>
              rw [hq, Bool.false_and, Bool.false_and] at ha
              rw [ha]
              simp (maxSteps := 1000000) (dsimp := false) (disch := omega) only [go_sem, simprocAttr, *]
              refine wpB_cond (by simp (maxSteps := 1000000) (dsimp := false) (disch := omega) only [go_sem, simprocAttr, *]; exact rfl) (fun hb4 => ?_) (fun hb4 => ?_) <;> try simp (maxSteps := 1000000) (dsimp := false) (disch := omega) only [go_sem, simprocAttr, decide_eq_true_eq, decide_eq_false_iff_not, Bool.not_eq_true, Bool.not_eq_false, Int.not_lt, Int.not_le] at hb4
              repeat' (first | refine wpB_seq ?_ | refine wpB_regionL rfl ?_ | refine wpB_block ?_ | refine wpB_skip ?_ | refine wpB_exit ?_ | refine wpB_ret ?_ | simp (maxSteps := 1000000) (dsimp := false) (disch := omega) only [go_sem, simprocAttr, *])
              try rfl
          · rw [List.drop_eq_nil_of_le (by omega)] at ha
            have ha' : G = allN (rowOk n) (j + 1) m := by rw [ha]; rfl
            repeat' (first | refine wpB_seq ?_ | refine wpB_regionL rfl ?_ | refine wpB_block ?_ | refine wpB_skip ?_ | refine wpB_exit ?_ | refine wpB_ret ?_ | simp (maxSteps := 1000000) (dsimp := false) (disch := omega) only [go_sem, simprocAttr, *])
            refine hR _ _ ⟨j + 1, m, by omega, rfl, by simp (maxSteps := 1000000) (dsimp := false) (disch := omega) only [go_sem, simprocAttr, *], by simp (maxSteps := 1000000) (dsimp := false) (disch := omega) only [go_sem, simprocAttr, *], by simp (maxSteps := 1000000) (dsimp := false) (disch := omega) only [go_sem, simprocAttr, *], by simp (maxSteps := 1000000) (dsimp := false) (disch := omega) only [go_sem, simprocAttr, *], by simp (maxSteps := 1000000) (dsimp := false) (disch := omega) only [go_sem, simprocAttr, *], ha'⟩ ?_
            simp (maxSteps := 1000000) (dsimp := false) (disch := omega) only [go_sem, simprocAttr, *, natOf_int]
    · replace ha : G = ((decide (-1 ≤ ru) && decide (ru < 16) && fr.all (isS n.set.length)) && allN (rowOk n) (j + 1) m) := by rw [ha]; simp [hs0]
      rcases (by by_cases h1 : ru < -1; exact .inl h1; by_cases h2 : ru < 16; exact .inr (.inr ⟨h1, h2⟩); exact .inr (.inl ⟨h1, h2⟩) : ru < -1 ∨ (¬ ru < -1 ∧ ¬ ru < 16) ∨ (¬ ru < -1 ∧ ru < 16)) with h1 | ⟨h1, h2⟩ | ⟨h1, h2⟩
      · have hx : G = false := by rw [ha]; simp; omega
        rw [hx]
        clear ha hx
        repeat' (first | refine wpB_seq ?_ | refine wpB_regionL rfl ?_ | refine wpB_block ?_ | refine wpB_skip ?_ | refine wpB_exit ?_ | refine wpB_ret ?_ | simp (maxSteps := 1000000) (dsimp := false) (disch := omega) only [go_sem, simprocAttr, *, nfaD, u16D, issD, isD])
        
        refine wpB_cond (by simp (maxSteps := 1000000) (dsimp := false) (disch := omega) only [go_sem, simprocAttr, *]; exact rfl) (fun hb2 => ?_) (fun hb2 => ?_) <;> try simp (maxSteps := 1000000) (dsimp := false) (disch := omega) only [go_sem, simprocAttr, decide_eq_true_eq, decide_eq_false_iff_not, Bool.not_eq_true, Bool.not_eq_false, Int.not_lt, Int.not_le] at hb2
        repeat' (first | refine wpB_seq ?_ | refine wpB_regionL rfl ?_ | refine wpB_block ?_ | refine wpB_skip ?_ | refine wpB_exit ?_ | refine wpB_ret ?_ | simp (maxSteps := 1000000) (dsimp := false) (disch := omega) only [go_sem, simprocAttr, *])
        try rfl
      · have hx : G = false := by rw [ha]; simp; omega
        rw [hx]
        clear ha hx
        repeat' (first | refine wpB_seq ?_ | refine wpB_regionL rfl ?_ | refine wpB_block ?_ | refine wpB_skip ?_ | refine wpB_exit ?_ | refine wpB_ret ?_ | simp (maxSteps := 1000000) (dsimp := false) (disch := omega) only [go_sem, simprocAttr, *, nfaD, u16D, issD, isD])
        
        refine wpB_cond (by simp (maxSteps := 1000000) (dsimp := false) (disch := omega) only [go_sem, simprocAttr, *]; exact rfl) (fun hb2 => ?_) (fun hb2 => ?_) <;> try simp (maxSteps := 1000000) (dsimp := false) (disch := omega) only [go_sem, simprocAttr, decide_eq_true_eq, decide_eq_false_iff_not, Bool.not_eq_true, Bool.not_eq_false, Int.not_lt, Int.not_le] at hb2
        repeat' (first | refine wpB_seq ?_ | refine wpB_regionL rfl ?_ | refine wpB_block ?_ | refine wpB_skip ?_ | refine wpB_exit ?_ | refine wpB_ret ?_ | simp (maxSteps := 1000000) (dsimp := false) (disch := omega) only [go_sem, simprocAttr, *])
        try rfl
      · replace ha : G = (fr.all (isS n.set.length) && allN (rowOk n) (j + 1) m) := by rw [ha, show decide (-1 ≤ ru) = true by simp; omega, show decide (ru < 16) = true by simp; omega]; rfl
        repeat' (first | refine wpB_seq ?_ | refine wpB_regionL rfl ?_ | refine wpB_block ?_ | refine wpB_skip ?_ | refine wpB_exit ?_ | refine wpB_ret ?_ | simp (maxSteps := 1000000) (dsimp := false) (disch := omega) only [go_sem, simprocAttr, *, nfaD, u16D, issD, isD])
        
        refine wpB_cond (by simp (maxSteps := 1000000) (dsimp := false) (disch := omega) only [go_sem, simprocAttr, *]; exact rfl) (fun hb2 => ?_) (fun hb2 => ?_) <;> try simp (maxSteps := 1000000) (dsimp := false) (disch := omega) only [go_sem, simprocAttr, decide_eq_true_eq, decide_eq_false_iff_not, Bool.not_eq_true, Bool.not_eq_false, Int.not_lt, Int.not_le] at hb2
        repeat' (first | refine wpB_seq ?_ | refine wpB_regionL rfl ?_ | refine wpB_block ?_ | refine wpB_skip ?_ | refine wpB_exit ?_ | refine wpB_ret ?_ | simp (maxSteps := 1000000) (dsimp := false) (disch := omega) only [go_sem, simprocAttr, *, nfaD, u16D, issD, isD])
        have hfl : fr.length ≤ 1000000 := hf fr (List.mem_of_getElem? hf1)
        have hi0 : G = ((fr.drop 0).all (isS n.set.length) && allN (rowOk n) (j + 1) m) := ha
        clear ha
        refine wpB_loop (fun e H => ∃ i : Nat, i ≤ fr.length ∧ H = H0 ∧ e 1 = .ptr 0 0 0 ∧ e 3 = .ptr 1 0 0 ∧ e 4 = .fn 34 [.ptr 1 0 0] ∧ e 39 = .int .i64 n.set.length ∧ e 40 = .int .i64 j ∧ e 79 = isD fr ∧ e 80 = .int .i64 fr.length ∧ e 81 = .int .i64 i ∧ G = ((fr.drop i).all (isS n.set.length) && allN (rowOk n) (j + 1) m)) (fun e H => fr.length - natOf (e 81)) ?_ ?_
        · exact ⟨0, Nat.zero_le _, rfl, by simp (maxSteps := 1000000) (dsimp := false) (disch := omega) only [go_sem, simprocAttr, *], by simp (maxSteps := 1000000) (dsimp := false) (disch := omega) only [go_sem, simprocAttr, *], by simp (maxSteps := 1000000) (dsimp := false) (disch := omega) only [go_sem, simprocAttr, *], by simp (maxSteps := 1000000) (dsimp := false) (disch := omega) only [go_sem, simprocAttr, *], by simp (maxSteps := 1000000) (dsimp := false) (disch := omega) only [go_sem, simprocAttr, *], by simp (maxSteps := 1000000) (dsimp := false) (disch := omega) only [go_sem, simprocAttr, *, isD], by simp (maxSteps := 1000000) (dsimp := false) (disch := omega) only [go_sem, simprocAttr, *], by simp (maxSteps := 1000000) (dsimp := false) (disch := omega) only [go_sem, simprocAttr, *], hi0⟩
        · clear hi0
          rintro e' H ⟨i, hi, rfl, e1, e3, e4, e39, e40, e79, e80, e81, ha⟩ R2 hR2
          simp only [H0]
          repeat' (first | refine wpB_seq ?_ | refine wpB_regionL rfl ?_ | refine wpB_block ?_ | refine wpB_skip ?_ | refine wpB_exit ?_ | refine wpB_ret ?_ | simp (maxSteps := 1000000) (dsimp := false) (disch := omega) only [go_sem, simprocAttr, *])
          refine wpB_cond (by simp (maxSteps := 1000000) (dsimp := false) (disch := omega) only [go_sem, simprocAttr, *]; exact rfl) (fun hb3 => ?_) (fun hb3 => ?_) <;> try simp (maxSteps := 1000000) (dsimp := false) (disch := omega) only [go_sem, simprocAttr, decide_eq_true_eq, decide_eq_false_iff_not, Bool.not_eq_true, Bool.not_eq_false, Int.not_lt, Int.not_le] at hb3
          · rw [allL_drop hb3] at ha
            repeat' (first | refine wpB_seq ?_ | refine wpB_regionL rfl ?_ | refine wpB_block ?_ | refine wpB_skip ?_ | refine wpB_exit ?_ | refine wpB_ret ?_ | simp (maxSteps := 1000000) (dsimp := false) (disch := omega) only [go_sem, simprocAttr, *, isD])
            refine evB_state bo34 rfl rfl (right1_ok _ n.set.length _ _ rfl) ?_ (fun _ _ h => h.elim)
            rintro d H' ⟨rfl, rfl⟩
            cases hq : isS n.set.length fr[i] with
            | true =>
              rw [hq, Bool.true_and] at ha
              simp (maxSteps := 1000000) (dsimp := false) (disch := omega) only [go_sem, simprocAttr, *]
              refine wpB_cond (by simp (maxSteps := 1000000) (dsimp := false) (disch := omega) only [go_sem, simprocAttr, *]; exact rfl) (fun hb4 => ?_) (fun hb4 => ?_) <;> try simp (maxSteps := 1000000) (dsimp := false) (disch := omega) only [go_sem, simprocAttr, decide_eq_true_eq, decide_eq_false_iff_not, Bool.not_eq_true, Bool.not_eq_false, Int.not_lt, Int.not_le] at hb4
              repeat' (first | refine wpB_seq ?_ | refine wpB_regionL rfl ?_ | refine wpB_block ?_ | refine wpB_skip ?_ | refine wpB_exit ?_ | refine wpB_ret ?_ | simp (maxSteps := 1000000) (dsimp := false) (disch := omega) only [go_sem, simprocAttr, *])
              refine hR2 _ _ ⟨i + 1, by omega, rfl, by simp (maxSteps := 1000000) (dsimp := false) (disch := omega) only [go_sem, simprocAttr, *], by simp (maxSteps := 1000000) (dsimp := false) (disch := omega) only [go_sem, simprocAttr, *], by simp (maxSteps := 1000000) (dsimp := false) (disch := omega) only [go_sem, simprocAttr, *], by simp (maxSteps := 1000000) (dsimp := false) (disch := omega) only [go_sem, simprocAttr, *], by simp (maxSteps := 1000000) (dsimp := false) (disch := omega) only [go_sem, simprocAttr, *], by simp (maxSteps := 1000000) (dsimp := false) (disch := omega) only [go_sem, simprocAttr, *], by simp (maxSteps := 1000000) (dsimp := false) (disch := omega) only [go_sem, simprocAttr, *], by simp (maxSteps := 1000000) (dsimp := false) (disch := omega) only [go_sem, simprocAttr, *], ha⟩ ?_
              simp (maxSteps := 1000000) (dsimp := false) (disch := omega) only [go_sem, simprocAttr, *, natOf_int]
            | false =>
              rw [hq, Bool.false_and, Bool.false_and] at ha
              rw [ha]
              simp (maxSteps := 1000000) (dsimp := false) (disch := omega) only [go_sem, simprocAttr, *]
              refine wpB_cond (by simp (maxSteps := 1000000) (dsimp := false) (disch := omega) only [go_sem, simprocAttr, *]; exact rfl) (fun hb4 => ?_) (fun hb4 => ?_) <;> try simp (maxSteps := 1000000) (dsimp := false) (disch := omega) only [go_sem, simprocAttr, decide_eq_true_eq, decide_eq_false_iff_not, Bool.not_eq_true, Bool.not_eq_false, Int.not_lt, Int.not_le] at hb4
              repeat' (first | refine wpB_seq ?_ | refine wpB_regionL rfl ?_ | refine wpB_block ?_ | refine wpB_skip ?_ | refine wpB_exit ?_ | refine wpB_ret ?_ | simp (maxSteps := 1000000) (dsimp := false) (disch := omega) only [go_sem, simprocAttr, *])
              try rfl
          · rw [List.drop_eq_nil_of_le (by omega)] at ha
            have ha' : G = allN (rowOk n) (j + 1) m := by rw [ha]; rfl
            repeat' (first | refine wpB_seq ?_ | refine wpB_regionL rfl ?_ | refine wpB_block ?_ | refine wpB_skip ?_ | refine wpB_exit ?_ | refine wpB_ret ?_ | simp (maxSteps := 1000000) (dsimp := false) (disch := omega) only [go_sem, simprocAttr, *])
            refine hR _ _ ⟨j + 1, m, by omega, rfl, by simp (maxSteps := 1000000) (dsimp := false) (disch := omega) only [go_sem, simprocAttr, *], by simp (maxSteps := 1000000) (dsimp := false) (disch := omega) only [go_sem, simprocAttr, *], by simp (maxSteps := 1000000) (dsimp := false) (disch := omega) only [go_sem, simprocAttr, *], by simp (maxSteps := 1000000) (dsimp := false) (disch := omega) only [go_sem, simprocAttr, *], by simp (maxSteps := 1000000) (dsimp := false) (disch := omega) only [go_sem, simprocAttr, *], ha'⟩ ?_
            simp (maxSteps := 1000000) (dsimp := false) (disch := omega) only [go_sem, simprocAttr, *, natOf_int]
  · obtain rfl : m = 0 := by omega
    have : G = true := ha
    rw [this]
    repeat' (first | refine wpB_seq ?_ | refine wpB_regionL rfl ?_ | refine wpB_block ?_ | refine wpB_skip ?_ | refine wpB_exit ?_ | refine wpB_ret ?_ | simp (maxSteps := 1000000) (dsimp := false) (disch := omega) only [go_sem, simprocAttr, *])
    try rfl
end Go.Proofs.W
end
/- Machines with free steps: whether one may be, by the document. -/
section
set_option maxHeartbeats 4000000
set_option linter.unusedVariables false
set_option linter.unusedSimpArgs false
namespace Go.Proofs.W
open Go Vm Go.Proofs.Zs06

theorem rowOk_of {n : Nfa} {j : Nat} {s t ru : Int} {fr : List Int} (hs2 : n.set.getD j 0 = s) (ht2 : n.to.getD j 0 = t) (hr2 : n.rule.getD j 0 = ru) (hf2 : n.free.getD j [] = fr) : rowOk n j = (!(decide (s ≠ 0) && !isS n.set.length t) && decide (-1 ≤ ru) && decide (ru < 16) && fr.all (isS n.set.length)) := by simp only [rowOk, hs2, ht2, hr2, hf2]
def tyN (n : Nfa) : Prop := ∀ x ∈ n.set, 0 ≤ x ∧ x < 65536
theorem ref_nright_ok (n : Nfa) (hs : n.set.length ≤ 1000000) (hf : ∀ l ∈ n.free, l.length ≤ 1000000) (ht : tyN n) : PureF Try.prog A 14 [nfaD n] (.bool (rightN n)) := by
  refine evF_inB (n := 111) (rs := [.tmp 2]) Try.func14 rfl rfl rfl rfl rfl rfl ?_
  repeat' (first | refine wpB_seq ?_ | refine wpB_regionL rfl ?_ | refine wpB_block ?_ | refine wpB_skip ?_ | refine wpB_exit ?_ | refine wpB_ret ?_ | simp (maxSteps := 1000000) (dsimp := false) (disch := omega) only [go_sem, simprocAttr, *, nfaD, u16D, issD, isD] | ((first | refine stepsB_both (fun hh => ?_) (fun hh => ?_) | refine stepsXB_both (fun hh => ?_) (fun hh => ?_)) <;> (try simp (maxSteps := 1000000) (dsimp := false) (disch := omega) only [go_sem, simprocAttr, decide_eq_true_eq, decide_eq_false_iff_not, Bool.not_eq_true, Bool.not_eq_false, Bool.not_eq_true', Bool.not_eq_false', Int.not_lt, Int.not_le, bne_iff_ne, bne_eq_false_iff_eq, beq_iff_eq, beq_eq_false_iff_ne, ne_eq, Int.ofNat_inj, Int.natCast_inj] at hh) <;> (try (exfalso; omega))) | (refine wpB_cond (by simp (maxSteps := 1000000) (dsimp := false) (disch := omega) only [go_sem, simprocAttr, *, nfaD, u16D, issD, isD]; exact rfl) (fun hh => ?_) (fun hh => ?_) <;> (try simp (maxSteps := 1000000) (dsimp := false) (disch := omega) only [go_sem, simprocAttr, decide_eq_true_eq, decide_eq_false_iff_not, Bool.not_eq_true, Bool.not_eq_false, Bool.not_eq_true', Bool.not_eq_false', Int.not_lt, Int.not_le, bne_iff_ne, bne_eq_false_iff_eq, beq_iff_eq, beq_eq_false_iff_ne, ne_eq, Int.ofNat_inj, Int.natCast_inj] at hh) <;> (try (exfalso; omega))))
  all_goals try (rw [show rightN n = false by simp [rightN]; omega]; done)
  have hz : rightN n = allN (rowOk n) 0 n.set.length := by simp [rightN]; omega
  rw [hz]
  generalize hG : allN (rowOk n) 0 n.set.length = G
  clear hz
  refine wpB_loop (fun e H => ∃ j m : Nat, j + m = n.set.length ∧ H = [Ob.arr [nfaD n]] ∧ e 1 = .ptr 0 0 0 ∧ e 3 = .int .i64 n.set.length ∧ e 4 = .int .i64 j ∧ G = allN (rowOk n) j m) (fun e H => n.set.length - natOf (e 4)) ?_ ?_
  · exact ⟨0, n.set.length, by omega, rfl, by simp (maxSteps := 1000000) (dsimp := false) (disch := omega) only [go_sem, simprocAttr, *], by simp (maxSteps := 1000000) (dsimp := false) (disch := omega) only [go_sem, simprocAttr, *], by simp (maxSteps := 1000000) (dsimp := false) (disch := omega) only [go_sem, simprocAttr, *], hG.symm⟩
  clear hG
  rintro e H ⟨j, m, hj, rfl, e1, e3, e4, ha⟩ R hR
  by_cases hb : j < n.set.length
  · obtain ⟨m, rfl⟩ : ∃ x, m = x + 1 := ⟨m - 1, by omega⟩
    obtain ⟨s, hs1, hs2⟩ := ex_at (l := n.set) (i := j) 0 (by omega)
    obtain ⟨t, ht1, ht2⟩ := ex_at (l := n.to) (i := j) 0 (by omega)
    obtain ⟨ru, hr1, hr2⟩ := ex_at (l := n.rule) (i := j) 0 (by omega)
    obtain ⟨fr, hf1, hf2⟩ := ex_at (l := n.free) (i := j) [] (by omega)
    have hty := ht s (List.mem_of_getElem? hs1)
    have hfl : fr.length ≤ 1000000 := hf fr (List.mem_of_getElem? hf1)
    have hrow := rowOk_of hs2 ht2 hr2 hf2
    simp only [allN, hrow] at ha
    clear hrow hs2 ht2 hr2 hf2
    repeat' (first | refine wpB_seq ?_ | refine wpB_regionL rfl ?_ | refine wpB_block ?_ | refine wpB_skip ?_ | refine wpB_exit ?_ | refine wpB_ret ?_ | simp (maxSteps := 1000000) (dsimp := false) (disch := omega) only [go_sem, simprocAttr, *, nfaD, u16D, issD, isD] | ((first | refine stepsB_both (fun hh => ?_) (fun hh => ?_) | refine stepsXB_both (fun hh => ?_) (fun hh => ?_)) <;> (try simp (maxSteps := 1000000) (dsimp := false) (disch := omega) only [go_sem, simprocAttr, decide_eq_true_eq, decide_eq_false_iff_not, Bool.not_eq_true, Bool.not_eq_false, Bool.not_eq_true', Bool.not_eq_false', Int.not_lt, Int.not_le, bne_iff_ne, bne_eq_false_iff_eq, beq_iff_eq, beq_eq_false_iff_ne, ne_eq, Int.ofNat_inj, Int.natCast_inj] at hh) <;> (try (exfalso; omega))) | (refine wpB_cond (by simp (maxSteps := 1000000) (dsimp := false) (disch := omega) only [go_sem, simprocAttr, *, nfaD, u16D, issD, isD]; exact rfl) (fun hh => ?_) (fun hh => ?_) <;> (try simp (maxSteps := 1000000) (dsimp := false) (disch := omega) only [go_sem, simprocAttr, decide_eq_true_eq, decide_eq_false_iff_not, Bool.not_eq_true, Bool.not_eq_false, Bool.not_eq_true', Bool.not_eq_false', Int.not_lt, Int.not_le, bne_iff_ne, bne_eq_false_iff_eq, beq_iff_eq, beq_eq_false_iff_ne, ne_eq, Int.ofNat_inj, Int.natCast_inj] at hh) <;> (try (exfalso; omega))))
    all_goals try (refine congrArg (fun b => some (D.bool b)) ?_; symm; simp [isS]; omega)
    all_goals
      replace ha : G = ((fr.drop 0).all (isS n.set.length) && allN (rowOk n) (j + 1) m) := by
        have : (!(decide (s ≠ 0) && !isS n.set.length t) && decide (-1 ≤ ru) && decide (ru < 16)) = true := by simp [isS]; omega
        rw [ha, this]; rfl
      refine wpB_loop (fun e H => ∃ i : Nat, i ≤ fr.length ∧ H = [Ob.arr [nfaD n]] ∧ e 1 = .ptr 0 0 0 ∧ e 3 = .int .i64 n.set.length ∧ e 4 = .int .i64 j ∧ e 5 = .int .i64 i ∧ G = ((fr.drop i).all (isS n.set.length) && allN (rowOk n) (j + 1) m)) (fun e H => fr.length - natOf (e 5)) ?_ ?_
      · exact ⟨0, Nat.zero_le _, rfl, by simp (maxSteps := 1000000) (dsimp := false) (disch := omega) only [go_sem, simprocAttr, *], by simp (maxSteps := 1000000) (dsimp := false) (disch := omega) only [go_sem, simprocAttr, *], by simp (maxSteps := 1000000) (dsimp := false) (disch := omega) only [go_sem, simprocAttr, *], by simp (maxSteps := 1000000) (dsimp := false) (disch := omega) only [go_sem, simprocAttr, *], ha⟩
      · clear ha
        rintro e' H ⟨i, hi, rfl, e1, e3, e4, e5, ha⟩ R2 hR2
        by_cases hb3 : i < fr.length
        · rw [allL_drop hb3] at ha
          repeat' (first | refine wpB_seq ?_ | refine wpB_regionL rfl ?_ | refine wpB_block ?_ | refine wpB_skip ?_ | refine wpB_exit ?_ | refine wpB_ret ?_ | simp (maxSteps := 1000000) (dsimp := false) (disch := omega) only [go_sem, simprocAttr, *, nfaD, u16D, issD, isD] | ((first | refine stepsB_both (fun hh => ?_) (fun hh => ?_) | refine stepsXB_both (fun hh => ?_) (fun hh => ?_)) <;> (try simp (maxSteps := 1000000) (dsimp := false) (disch := omega) only [go_sem, simprocAttr, decide_eq_true_eq, decide_eq_false_iff_not, Bool.not_eq_true, Bool.not_eq_false, Bool.not_eq_true', Bool.not_eq_false', Int.not_lt, Int.not_le, bne_iff_ne, bne_eq_false_iff_eq, beq_iff_eq, beq_eq_false_iff_ne, ne_eq, Int.ofNat_inj, Int.natCast_inj] at hh) <;> (try (exfalso; omega))) | (refine wpB_cond (by simp (maxSteps := 1000000) (dsimp := false) (disch := omega) only [go_sem, simprocAttr, *, nfaD, u16D, issD, isD]; exact rfl) (fun hh => ?_) (fun hh => ?_) <;> (try simp (maxSteps := 1000000) (dsimp := false) (disch := omega) only [go_sem, simprocAttr, decide_eq_true_eq, decide_eq_false_iff_not, Bool.not_eq_true, Bool.not_eq_false, Bool.not_eq_true', Bool.not_eq_false', Int.not_lt, Int.not_le, bne_iff_ne, bne_eq_false_iff_eq, beq_iff_eq, beq_eq_false_iff_ne, ne_eq, Int.ofNat_inj, Int.natCast_inj] at hh) <;> (try (exfalso; omega))))
          all_goals try (refine congrArg (fun b => some (D.bool b)) ?_; symm; simp [isS]; omega)
          refine hR2 _ _ ⟨i + 1, by omega, rfl, by simp (maxSteps := 1000000) (dsimp := false) (disch := omega) only [go_sem, simprocAttr, *], by simp (maxSteps := 1000000) (dsimp := false) (disch := omega) only [go_sem, simprocAttr, *], by simp (maxSteps := 1000000) (dsimp := false) (disch := omega) only [go_sem, simprocAttr, *], by simp (maxSteps := 1000000) (dsimp := false) (disch := omega) only [go_sem, simprocAttr, *], by rw [ha, show isS n.set.length fr[i] = true by simp [isS]; omega]; rfl⟩ ?_
          simp (maxSteps := 1000000) (dsimp := false) (disch := omega) only [go_sem, simprocAttr, *, natOf_int]
        · rw [List.drop_eq_nil_of_le (by omega)] at ha
          replace ha : G = allN (rowOk n) (j + 1) m := by rw [ha]; rfl
          repeat' (first | refine wpB_seq ?_ | refine wpB_regionL rfl ?_ | refine wpB_block ?_ | refine wpB_skip ?_ | refine wpB_exit ?_ | refine wpB_ret ?_ | simp (maxSteps := 1000000) (dsimp := false) (disch := omega) only [go_sem, simprocAttr, *, nfaD, u16D, issD, isD] | ((first | refine stepsB_both (fun hh => ?_) (fun hh => ?_) | refine stepsXB_both (fun hh => ?_) (fun hh => ?_)) <;> (try simp (maxSteps := 1000000) (dsimp := false) (disch := omega) only [go_sem, simprocAttr, decide_eq_true_eq, decide_eq_false_iff_not, Bool.not_eq_true, Bool.not_eq_false, Bool.not_eq_true', Bool.not_eq_false', Int.not_lt, Int.not_le, bne_iff_ne, bne_eq_false_iff_eq, beq_iff_eq, beq_eq_false_iff_ne, ne_eq, Int.ofNat_inj, Int.natCast_inj] at hh) <;> (try (exfalso; omega))) | (refine wpB_cond (by simp (maxSteps := 1000000) (dsimp := false) (disch := omega) only [go_sem, simprocAttr, *, nfaD, u16D, issD, isD]; exact rfl) (fun hh => ?_) (fun hh => ?_) <;> (try simp (maxSteps := 1000000) (dsimp := false) (disch := omega) only [go_sem, simprocAttr, decide_eq_true_eq, decide_eq_false_iff_not, Bool.not_eq_true, Bool.not_eq_false, Bool.not_eq_true', Bool.not_eq_false', Int.not_lt, Int.not_le, bne_iff_ne, bne_eq_false_iff_eq, beq_iff_eq, beq_eq_false_iff_ne, ne_eq, Int.ofNat_inj, Int.natCast_inj] at hh) <;> (try (exfalso; omega))))
          refine hR _ _ ⟨j + 1, m, by omega, rfl, by simp (maxSteps := 1000000) (dsimp := false) (disch := omega) only [go_sem, simprocAttr, *], by simp (maxSteps := 1000000) (dsimp := false) (disch := omega) only [go_sem, simprocAttr, *], by simp (maxSteps := 1000000) (dsimp := false) (disch := omega) only [go_sem, simprocAttr, *], ha⟩ ?_
          simp (maxSteps := 1000000) (dsimp := false) (disch := omega) only [go_sem, simprocAttr, *, natOf_int]
  · repeat' (first | refine wpB_seq ?_ | refine wpB_regionL rfl ?_ | refine wpB_block ?_ | refine wpB_skip ?_ | refine wpB_exit ?_ | refine wpB_ret ?_ | simp (maxSteps := 1000000) (dsimp := false) (disch := omega) only [go_sem, simprocAttr, *] | ((first | refine stepsB_both (fun hh => ?_) (fun hh => ?_) | refine stepsXB_both (fun hh => ?_) (fun hh => ?_)) <;> (try simp (maxSteps := 1000000) (dsimp := false) (disch := omega) only [go_sem, simprocAttr, decide_eq_true_eq, decide_eq_false_iff_not, Bool.not_eq_true, Bool.not_eq_false, Bool.not_eq_true', Bool.not_eq_false', Int.not_lt, Int.not_le, bne_iff_ne, bne_eq_false_iff_eq, beq_iff_eq, beq_eq_false_iff_ne, ne_eq, Int.ofNat_inj, Int.natCast_inj] at hh) <;> (try (exfalso; omega))) | (refine wpB_cond (by simp (maxSteps := 1000000) (dsimp := false) (disch := omega) only [go_sem, simprocAttr, *]; exact rfl) (fun hh => ?_) (fun hh => ?_) <;> (try simp (maxSteps := 1000000) (dsimp := false) (disch := omega) only [go_sem, simprocAttr, decide_eq_true_eq, decide_eq_false_iff_not, Bool.not_eq_true, Bool.not_eq_false, Bool.not_eq_true', Bool.not_eq_false', Int.not_lt, Int.not_le, bne_iff_ne, bne_eq_false_iff_eq, beq_iff_eq, beq_eq_false_iff_ne, ne_eq, Int.ofNat_inj, Int.natCast_inj] at hh) <;> (try (exfalso; omega))))
    obtain rfl : m = 0 := by omega
    rfl
end Go.Proofs.W
end
/- Machines with free steps: tables of states, as the document has them. -/
section
set_option maxHeartbeats 4000000
set_option linter.unusedVariables false
set_option linter.unusedSimpArgs false
namespace Go.Proofs.W
open Go Vm Go.Proofs.Zs06

/-- a table, as data -/
def tabD (k : Nat) (p : Nat → Bool) : List D := (List.range k).map fun i => .bool (p i)
theorem tabD_len {k : Nat} {p : Nat → Bool} : (tabD k p).length = k := by simp [tabD]
theorem tabD_at {k : Nat} {p : Nat → Bool} {i : Nat} (h : i < k) : (tabD k p)[i]? = some (.bool (p i)) := by simp [tabD, h]
theorem tabD_congr {k : Nat} {p q : Nat → Bool} (h : ∀ i, i < k → p i = q i) : tabD k p = tabD k q := by
  refine List.map_congr_left fun i hi => ?_
  rw [h i (by simpa using hi)]
theorem tabD_set {k : Nat} {p : Nat → Bool} {x : Nat} {b : Bool} (h : x < k) : (tabD k p).set x (.bool b) = tabD k fun i => if i = x then b else p i := by
  refine List.ext_getElem? fun i => ?_
  rw [List.getElem?_set]
  by_cases hi : i < k
  · rw [tabD_at hi, tabD_len]
    by_cases hx : x = i
    · subst hx; simp [h, tabD]
    · rw [if_neg hx, tabD_at hi, if_neg (fun e => hx e.symm)]
  · rw [List.getElem?_eq_none (by rw [tabD_len]; omega : (tabD k p).length ≤ i), List.getElem?_eq_none (by rw [tabD_len]; omega)]
    rw [if_neg (by omega)]
theorem strip_bools (l : List Nat) (p : Nat → Bool) : stripL (l.map fun i => D.bool (p i)) = some (l.map fun i => D.bool (p i)) := by
  induction l with
  | nil => rfl
  | cons q r ih => simp [stripL, ih, strip]
theorem strip_tabD (k : Nat) (p : Nat → Bool) : stripL (tabD k p) = some (tabD k p) := strip_bools _ p
theorem head_tabD (k : Nat) (p : Nat → Bool) : headSize 1 (tabD k p) = true := by
  unfold tabD
  cases List.range k <;> rfl
def tD (k : Nat) (p : Nat → Bool) : D := .sl false (tabD k p)
theorem strip_tD (k : Nat) (p : Nat → Bool) : strip (tD k p) = some (tD k p) := by simp [tD, strip, strip_tabD]
theorem mkBools {k : Nat} {H : Heap} (h1 : 1 ≤ k) (h2 : k ≤ 1000000) : makeSliceD Try.prog 42 (.int .i64 k) (.int .i64 k) H = some (.vec H.length 0 k, H ++ [.arr (tabD k fun _ => false)]) := by
  have h0 : List.replicate k (D.bool false) = tabD k fun _ => false := by
    refine List.ext_getElem? fun i => ?_
    by_cases hi : i < k
    · rw [tabD_at hi]; simp [hi]
    · rw [List.getElem?_eq_none (by simpa using hi), List.getElem?_eq_none (by rw [tabD_len]; omega)]
  simp only [makeSliceD, el42, sz4, by4, zr4, Option.bind_some, Int.toNat_natCast, h0]
  rw [if_pos ⟨by omega, by omega, by simp [mostBytes]; omega, by omega, rfl⟩, if_neg (by omega)]
theorem tab_size {H : Heap} {r k : Nat} {p : Nat → Bool} (h : hget H r = .arr (tabD k p)) (hk : 1 ≤ k) : vecSize H r 1 = true := vecSize_of h (fun h0 => by have := congrArg List.length h0; rw [tabD_len] at this; simp at this; omega) (head_tabD k p)
theorem vecO_tab {k : Nat} {p : Nat → Bool} (hk : 1 ≤ k) : vecO (.arr (tabD k p)) 1 = true := vecO_arr (fun h0 => by have := congrArg List.length h0; rw [tabD_len] at this; simp at this; omega) (head_tabD k p)
attribute [go_sem] tabD_len tabD_at tabD_set mkBools vecSize_o vecO_tab
theorem out_tab {H : Heap} {r k : Nat} {p : Nat → Bool} (hg : hget H r = .arr (tabD k p)) (hk : 1 ≤ k) (hr : r < H.length) : outPure H (.vec r 0 k) = some (tD k p) := by
  have h : VecIs (.vec r 0 k) H (tabD k p) := .inr ⟨fun h0 => by have := congrArg List.length h0; rw [tabD_len] at this; simp at this; omega, r, by rw [tabD_len], hg, hr⟩
  exact h.out (strip_tabD k p)
/-- those told -/
theorem table_ok (l : List Int) (k : Nat) (hk : 1 ≤ k) (hk2 : k ≤ 1000000) (hl : l.length ≤ 1000000) : PureF Try.prog A 18 [isD l, .int .i64 k] (tD k fun s => decide ((s : Int) ∈ l)) := by
  refine evF_inB (n := 35) (rs := [.tmp 4]) Try.func18 rfl rfl rfl rfl rfl rfl ?_
  repeat' (first | refine wpB_seq ?_ | refine wpB_regionL rfl ?_ | refine wpB_block ?_ | refine wpB_skip ?_ | refine wpB_exit ?_ | refine wpB_ret ?_ | simp (maxSteps := 1000000) (dsimp := false) (disch := omega) only [go_sem, simprocAttr, *, isD] | ((first | refine stepsB_both (fun hh => ?_) (fun hh => ?_) | refine stepsXB_both (fun hh => ?_) (fun hh => ?_)) <;> (try simp (maxSteps := 1000000) (dsimp := false) (disch := omega) only [go_sem, simprocAttr, decide_eq_true_eq, decide_eq_false_iff_not, Bool.not_eq_true, Bool.not_eq_false, Bool.not_eq_true', Bool.not_eq_false', Int.not_lt, Int.not_le, bne_iff_ne, bne_eq_false_iff_eq, beq_iff_eq, beq_eq_false_iff_ne, ne_eq, Int.ofNat_inj, Int.natCast_inj] at hh) <;> (try (exfalso; omega))) | (refine wpB_cond (by simp (maxSteps := 1000000) (dsimp := false) (disch := omega) only [go_sem, simprocAttr, *, isD]; exact rfl) (fun hh => ?_) (fun hh => ?_) <;> (try simp (maxSteps := 1000000) (dsimp := false) (disch := omega) only [go_sem, simprocAttr, decide_eq_true_eq, decide_eq_false_iff_not, Bool.not_eq_true, Bool.not_eq_false, Bool.not_eq_true', Bool.not_eq_false', Int.not_lt, Int.not_le, bne_iff_ne, bne_eq_false_iff_eq, beq_iff_eq, beq_eq_false_iff_ne, ne_eq, Int.ofNat_inj, Int.natCast_inj] at hh) <;> (try (exfalso; omega))))
  refine wpB_loop (fun e H => ∃ (j : Nat) (p : Nat → Bool), j ≤ l.length ∧ H = [Ob.arr (tabD k p)] ∧ e 0 = isD l ∧ e 1 = .int .i64 k ∧ e 5 = .vec 0 0 k ∧ e 6 = .int .i64 j ∧ ∀ s, s < k → p s = decide ((s : Int) ∈ l.take j)) (fun e H => l.length - natOf (e 6)) ?_ ?_
  · exact ⟨0, _, by omega, rfl, by simp (maxSteps := 1000000) (dsimp := false) (disch := omega) only [go_sem, simprocAttr, *, isD], by simp (maxSteps := 1000000) (dsimp := false) (disch := omega) only [go_sem, simprocAttr, *], by simp (maxSteps := 1000000) (dsimp := false) (disch := omega) only [go_sem, simprocAttr, *], by simp (maxSteps := 1000000) (dsimp := false) (disch := omega) only [go_sem, simprocAttr, *], fun s _ => by simp⟩
  · rintro e H ⟨j, p, hj, rfl, e0, e1, e5, e6, hp⟩ R hR
    by_cases hb : j < l.length
    · have htk := take_succ' hb
      have hvs := tab_size (H := [Ob.arr (tabD k p)]) (r := 0) rfl hk
      have key : ∀ q : Nat → Bool, (∀ s, s < k → q s = (p s || decide ((s : Int) = l[j]))) → ∀ s, s < k → q s = decide ((s : Int) ∈ l.take (j + 1)) := by
        intro q hq s hs
        rw [hq s hs, hp s hs, htk]; simp only [List.mem_append, List.mem_singleton, Bool.decide_or]
      clear htk
      repeat' (first | refine wpB_seq ?_ | refine wpB_regionL rfl ?_ | refine wpB_block ?_ | refine wpB_skip ?_ | refine wpB_exit ?_ | refine wpB_ret ?_ | simp (maxSteps := 1000000) (dsimp := false) (disch := omega) only [go_sem, simprocAttr, *, isD] | ((first | refine stepsB_both (fun hh => ?_) (fun hh => ?_) | refine stepsXB_both (fun hh => ?_) (fun hh => ?_)) <;> (try simp (maxSteps := 1000000) (dsimp := false) (disch := omega) only [go_sem, simprocAttr, decide_eq_true_eq, decide_eq_false_iff_not, Bool.not_eq_true, Bool.not_eq_false, Bool.not_eq_true', Bool.not_eq_false', Int.not_lt, Int.not_le, bne_iff_ne, bne_eq_false_iff_eq, beq_iff_eq, beq_eq_false_iff_ne, ne_eq, Int.ofNat_inj, Int.natCast_inj] at hh) <;> (try (exfalso; omega))) | (refine wpB_cond (by simp (maxSteps := 1000000) (dsimp := false) (disch := omega) only [go_sem, simprocAttr, *, isD]; exact rfl) (fun hh => ?_) (fun hh => ?_) <;> (try simp (maxSteps := 1000000) (dsimp := false) (disch := omega) only [go_sem, simprocAttr, decide_eq_true_eq, decide_eq_false_iff_not, Bool.not_eq_true, Bool.not_eq_false, Bool.not_eq_true', Bool.not_eq_false', Int.not_lt, Int.not_le, bne_iff_ne, bne_eq_false_iff_eq, beq_iff_eq, beq_eq_false_iff_ne, ne_eq, Int.ofNat_inj, Int.natCast_inj] at hh) <;> (try (exfalso; omega))))
      · refine hR _ _ ⟨j + 1, fun i => if i = l[j].toNat then true else p i, by omega, by simp (maxSteps := 1000000) (dsimp := false) (disch := omega) only [go_sem, simprocAttr, *], by simp (maxSteps := 1000000) (dsimp := false) (disch := omega) only [go_sem, simprocAttr, *, isD], by simp (maxSteps := 1000000) (dsimp := false) (disch := omega) only [go_sem, simprocAttr, *], by simp (maxSteps := 1000000) (dsimp := false) (disch := omega) only [go_sem, simprocAttr, *], by simp (maxSteps := 1000000) (dsimp := false) (disch := omega) only [go_sem, simprocAttr, *], key _ fun s hs => ?_⟩ ?_
        · by_cases h : s = l[j].toNat
          · rw [if_pos h, show decide ((s : Int) = l[j]) = true by simp; omega]; simp
          · rw [if_neg h, show decide ((s : Int) = l[j]) = false by simp; omega]; simp
        · simp (maxSteps := 1000000) (dsimp := false) (disch := omega) only [go_sem, simprocAttr, *, natOf_int]
      all_goals
        refine hR _ _ ⟨j + 1, p, by omega, by simp (maxSteps := 1000000) (dsimp := false) (disch := omega) only [go_sem, simprocAttr, *], by simp (maxSteps := 1000000) (dsimp := false) (disch := omega) only [go_sem, simprocAttr, *, isD], by simp (maxSteps := 1000000) (dsimp := false) (disch := omega) only [go_sem, simprocAttr, *], by simp (maxSteps := 1000000) (dsimp := false) (disch := omega) only [go_sem, simprocAttr, *], by simp (maxSteps := 1000000) (dsimp := false) (disch := omega) only [go_sem, simprocAttr, *], key _ fun s hs => ?_⟩ ?_
        · rw [show decide ((s : Int) = l[j]) = false by simp; omega]; simp
        · simp (maxSteps := 1000000) (dsimp := false) (disch := omega) only [go_sem, simprocAttr, *, natOf_int]
    · repeat' (first | refine wpB_seq ?_ | refine wpB_regionL rfl ?_ | refine wpB_block ?_ | refine wpB_skip ?_ | refine wpB_exit ?_ | refine wpB_ret ?_ | simp (maxSteps := 1000000) (dsimp := false) (disch := omega) only [go_sem, simprocAttr, *, isD] | ((first | refine stepsB_both (fun hh => ?_) (fun hh => ?_) | refine stepsXB_both (fun hh => ?_) (fun hh => ?_)) <;> (try simp (maxSteps := 1000000) (dsimp := false) (disch := omega) only [go_sem, simprocAttr, decide_eq_true_eq, decide_eq_false_iff_not, Bool.not_eq_true, Bool.not_eq_false, Bool.not_eq_true', Bool.not_eq_false', Int.not_lt, Int.not_le, bne_iff_ne, bne_eq_false_iff_eq, beq_iff_eq, beq_eq_false_iff_ne, ne_eq, Int.ofNat_inj, Int.natCast_inj] at hh) <;> (try (exfalso; omega))) | (refine wpB_cond (by simp (maxSteps := 1000000) (dsimp := false) (disch := omega) only [go_sem, simprocAttr, *, isD]; exact rfl) (fun hh => ?_) (fun hh => ?_) <;> (try simp (maxSteps := 1000000) (dsimp := false) (disch := omega) only [go_sem, simprocAttr, decide_eq_true_eq, decide_eq_false_iff_not, Bool.not_eq_true, Bool.not_eq_false, Bool.not_eq_true', Bool.not_eq_false', Int.not_lt, Int.not_le, bne_iff_ne, bne_eq_false_iff_eq, beq_iff_eq, beq_eq_false_iff_ne, ne_eq, Int.ofNat_inj, Int.natCast_inj] at hh) <;> (try (exfalso; omega))))
      rw [out_tab rfl hk (by simp)]
      refine congrArg (fun x => some (D.sl false x)) (tabD_congr fun s hs => ?_)
      rw [hp s hs, List.take_of_length_le (by omega)]
end Go.Proofs.W
end
/- In this chapter: lists of numbers alone. -/
section
set_option maxHeartbeats 4000000
set_option linter.unusedVariables false
set_option linter.unusedSimpArgs false
namespace Go.Proofs.W
end Go.Proofs.W
end
/- Expressions: whether they may be; whether they have the empty word. -/
section
set_option maxHeartbeats 4000000
set_option linter.unusedVariables false
set_option linter.unusedSimpArgs false
namespace Go.Proofs.W
open Go Vm Go.Proofs.Zs06

mutual
def sizeR : Rx → Nat
  | .mk _ _ l => sizeL l + 1
def sizeL : List Rx → Nat
  | [] => 0
  | r :: l => sizeR r + sizeL l
end
theorem sizeR_pos (r : Rx) : 0 < sizeR r := by cases r; simp [sizeR]
mutual
theorem cnt_eq : ∀ (r : Rx) (d : Nat) (left : Int), 0 ≤ left → ((cntR r d left).1 = true ↔ (sizeR r : Int) ≤ left ∧ depth r ≤ d ∧ shapesR r = true) ∧ ((cntR r d left).1 = true → (cntR r d left).2 = left - sizeR r)
  | .mk k s l, d, left, h => by
    simp only [cntR, sizeR, depth, shapesR, Bool.and_eq_true]
    by_cases h1 : left - 1 < 0
    · rw [if_pos (.inl h1)]
      simp only [Bool.false_eq_true, false_iff, false_implies, and_true, not_and]
      omega
    by_cases h2 : d = 0
    · rw [if_pos (.inr (.inl h2))]
      simp only [Bool.false_eq_true, false_iff, false_implies, and_true, not_and]
      omega
    by_cases h3 : shape1 k s l.length = false
    · rw [if_pos (.inr (.inr h3))]
      simp [h3]
    · rw [if_neg (by simp [h1, h2, h3])]
      have := cntL_eq l (d - 1) (left - 1) (by omega)
      simp only [Bool.not_eq_false] at h3
      simp only [h3, true_and]
      refine ⟨this.1.trans ⟨fun ⟨a, b, c⟩ => ⟨by omega, by omega, c⟩, fun ⟨a, b, c⟩ => ⟨by omega, by omega, c⟩⟩, fun h => ?_⟩
      rw [this.2 h]; omega
theorem cntL_eq : ∀ (l : List Rx) (d : Nat) (left : Int), 0 ≤ left → ((cntL l d left).1 = true ↔ (sizeL l : Int) ≤ left ∧ depthL l ≤ d ∧ shapesL l = true) ∧ ((cntL l d left).1 = true → (cntL l d left).2 = left - sizeL l)
  | [], d, left, h => by simp [cntL, sizeL, depthL, shapesL, h]
  | r :: l, d, left, h => by
    simp only [cntL, sizeL, depthL, shapesL, Bool.and_eq_true]
    have h1 := cnt_eq r d left h
    cases hc : (cntR r d left).1 with
    | false =>
      rw [hc] at h1
      simp only [Bool.false_eq_true, false_iff, false_implies, and_true, if_false, not_and] at h1 ⊢
      intro ha hb hs
      exact absurd hs (h1 (by omega) (by omega))
    | true =>
      rw [hc] at h1
      simp only [true_iff, if_true, forall_const] at h1 ⊢
      have h2 := cntL_eq l d (cntR r d left).2 (by omega)
      rw [h1.2] at h2 ⊢
      refine ⟨h2.1.trans ⟨fun ⟨a, b, c⟩ => ⟨by omega, by omega, h1.1.2.2, c⟩, fun ⟨a, b, c⟩ => ⟨by omega, by omega, c.2⟩⟩, fun h => ?_⟩
      rw [h2.2 h]; omega
end
mutual
theorem nodes_size : ∀ r : Rx, nodesR r ≤ 100 ↔ sizeR r ≤ 100
  | .mk k s l => by
    simp only [nodesR, sizeR]
    have := nodesL_size l 1 (by omega)
    omega
theorem nodesL_size : ∀ (l : List Rx) (n : Nat), 1 ≤ n → (nodesL n l ≤ 100 ↔ n + sizeL l ≤ 100)
  | [], n, h => by simp [nodesL, sizeL]
  | r :: l, n, h => by
    simp only [nodesL, sizeL]
    have h1 := nodes_size r
    have hp := sizeR_pos r
    split
    · have h2 := nodesL_size l (n + nodesR r) (by omega)
      rw [h2]
      have h3 := nodes_small r
      omega
    · omega
theorem nodes_small : ∀ r : Rx, (sizeR r ≤ 100 → nodesR r = sizeR r) ∧ (100 < sizeR r → 100 < nodesR r)
  | .mk k s l => by
    simp only [nodesR, sizeR]
    have := nodesL_small l 1 (by omega)
    exact ⟨fun h => by have := this.1 (by omega); omega, fun h => by have := this.2 (by omega); omega⟩
theorem nodesL_small : ∀ (l : List Rx) (n : Nat), 1 ≤ n → (n + sizeL l ≤ 100 → nodesL n l = n + sizeL l) ∧ (100 < n + sizeL l → 100 < nodesL n l)
  | [], n, h => by simp [nodesL, sizeL]
  | r :: l, n, h => by
    simp only [nodesL, sizeL]
    have h1 := nodes_small r
    have hp := sizeR_pos r
    split
    · rename_i hn
      have h2 := nodesL_small l (n + nodesR r) (by omega)
      refine ⟨fun ha => ?_, fun ha => ?_⟩
      · have e1 := h1.1 (by omega)
        rw [e1] at h2 ⊢
        have := h2.1 (by omega); omega
      · rcases Nat.lt_or_ge 100 (sizeR r) with hb | hb
        · have := h1.2 hb
          exact h2.2 (by omega)
        · have e1 := h1.1 hb
          rw [e1] at h2 ⊢
          exact h2.2 (by omega)
    · exact ⟨fun ha => by omega, fun ha => by omega⟩
end
theorem cnt_right (r : Rx) : (cntR r 12 100).1 = rightR r := by
  have h := (cnt_eq r 12 100 (by omega)).1
  have hn := nodes_size r
  unfold rightR
  rw [Bool.eq_iff_iff, h]
  simp only [Bool.and_eq_true, decide_eq_true_eq]
  constructor
  · rintro ⟨a, b, c⟩; exact ⟨⟨b, by omega⟩, c⟩
  · rintro ⟨⟨a, b⟩, c⟩; exact ⟨by omega, a, c⟩
theorem rightP_ok (r : Rx) (hr : okR r) : PureF Try.prog A 26 [rxD r] (.bool (rightR r)) := by
  rw [← cnt_right]
  have hc := count_ok 12 (by omega) r hr 100 (by omega) (by omega)
  have c1 := rx_cells r
  have c2 := rx_aggQ r
  have c3 := rx_noTup r
  refine evF_inB (n := 6) (rs := [.tmp 2]) Try.func26 rfl rfl rfl rfl rfl rfl ?_
  generalize rxD r = d at *
  have hc1 : EvF Try.prog A 38 [d, .int .i64 12, .ptr 1 0 0] [Ob.arr [d], Ob.arr [.int .i64 100]] (fun x H' => x = .bool (cntR r 12 100).1 ∧ PtrTo [Ob.arr [d], Ob.arr [.int .i64 100]] H' 1 (.int .i64 (cntR r 12 100).2)) (fun _ _ => False) := hc _ 1 rfl
  repeat' (first | refine wpB_seq ?_ | refine wpB_regionL rfl ?_ | refine wpB_block ?_ | refine wpB_skip ?_ | refine wpB_exit ?_ | refine wpB_ret ?_ | simp (maxSteps := 1000000) (dsimp := false) (disch := omega) only [go_sem, simprocAttr, *])
  refine evB_state bo38 rfl rfl hc1 ?_ (fun _ _ h => h.elim)
  rintro _ H' ⟨rfl, hP⟩
  simp (maxSteps := 1000000) (dsimp := false) (disch := omega) only [go_sem, simprocAttr, *]
  repeat' (first | refine wpB_seq ?_ | refine wpB_regionL rfl ?_ | refine wpB_block ?_ | refine wpB_skip ?_ | refine wpB_exit ?_ | refine wpB_ret ?_ | simp (maxSteps := 1000000) (dsimp := false) (disch := omega) only [go_sem, simprocAttr, *])
def emptyR : Rx → Bool
  | .mk k _ l => if k = 1 then false else if k = 2 then emptyAll l else if k = 3 then emptyAny l else true
where
  emptyAll : List Rx → Bool
  | [] => true
  | r :: l => emptyR r && emptyAll l
  emptyAny : List Rx → Bool
  | [] => false
  | r :: l => emptyR r || emptyAny l
end Go.Proofs.W
end
/- In this chapter: nothing more of empty words. -/
section
set_option maxHeartbeats 4000000
set_option linter.unusedVariables false
set_option linter.unusedSimpArgs false
namespace Go.Proofs.W
end Go.Proofs.W
end
