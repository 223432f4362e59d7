/- Texts that stand behind this claim, one after the other. -/
import Derived.Test.YthfbnjkijkbpcaaDoorM6
import Derived.Test.YthfbnjkijkbpcaaDoorM3
/- Expressions: whether they may be, in the document's words and in the program's. -/
section
set_option maxHeartbeats 4000000
set_option linter.unusedVariables false
set_option linter.unusedSimpArgs false
namespace Go.Proofs.W
open Go Vm Go.Proofs.Zs07

def rightR (r : Rx) : Bool := decide (depth r ≤ 12) && decide (nodesR r ≤ 100) && shapesR r
theorem right_ok (r : Rx) (hr : okR r) : PureF Tryd.prog A 20 [rxD r] (.bool (rightR r)) := by
  have hd := deep_depth 12 r
  have hdeep := deep_ok 12 (by omega) r hr
  have hst := strip_rx r
  have hst1 := strip1 hst
  have hst2 := strip2 hst (strip_int (k := .i64) (n := 12))
  have hn := fun h => nodes_ok 12 r hr h (by omega)
  have hs := shapes_ok (depth r) r hr (Nat.le_refl _)
  unfold rightR
  have c1 := rx_cells r
  have c2 := rx_aggQ r
  have c3 := rx_noTup r
  generalize rxD r = d at *
  refine evF_inB (n := 15) (rs := [.tmp 2]) Tryd.func20 rfl rfl rfl rfl rfl rfl ?_
  repeat' (first | refine wz1 ?_ | refine wz2 ?_ | refine wz3 ?_ | refine wz4 ?_ | refine wz5 ?_ | refine wz6 ?_ | simp -dsimp (maxSteps:=999999) (disch:=omega) only[go_sem,simprocAttr, *])
  refine evB_plain bo31 rfl rfl hst2 (by simpa using hdeep) ?_
  by_cases h12 : depth r ≤ 12
  · rw [show deepR 12 r = depth r by omega]
    repeat' (first | refine wz1 ?_ | refine wz2 ?_ | refine wz3 ?_ | refine wz4 ?_ | refine wz5 ?_ | refine wz6 ?_ | simp -dsimp (maxSteps:=999999) (disch:=omega) only[go_sem,simprocAttr, *])
    refine evB_plain bo21 rfl rfl hst1 (hn h12) ?_
    by_cases h100 : nodesR r ≤ 100
    · repeat' (first | refine wz1 ?_ | refine wz2 ?_ | refine wz3 ?_ | refine wz4 ?_ | refine wz5 ?_ | refine wz6 ?_ | simp -dsimp (maxSteps:=999999) (disch:=omega) only[go_sem,simprocAttr, *])
      refine evB_plain bo32 rfl rfl hst1 hs ?_
      repeat' (first | refine wz1 ?_ | refine wz2 ?_ | refine wz3 ?_ | refine wz4 ?_ | refine wz5 ?_ | refine wz6 ?_ | simp -dsimp (maxSteps:=999999) (disch:=omega) only[go_sem,simprocAttr, *])
      try simp [h12, h100]
    · repeat' (first | refine wz1 ?_ | refine wz2 ?_ | refine wz3 ?_ | refine wz4 ?_ | refine wz5 ?_ | refine wz6 ?_ | simp -dsimp (maxSteps:=999999) (disch:=omega) only[go_sem,simprocAttr, *])
      try simp [h100]
  · rw [show deepR 12 r = 13 by omega]
    repeat' (first | refine wz1 ?_ | refine wz2 ?_ | refine wz3 ?_ | refine wz4 ?_ | refine wz5 ?_ | refine wz6 ?_ | simp -dsimp (maxSteps:=999999) (disch:=omega) only[go_sem,simprocAttr, *])
    try simp [h12]

theorem shape_ok (r : Rx) (hr : okR r) : PureF Tryd.prog A 64 [rxD r] (.bool (shape1 r.k r.s r.kids.length)) := by
  obtain ⟨k, s, l⟩ := r
  obtain ⟨hk0, hk1, hs0, hs1, hlen, hok⟩ := hr
  simp only [Rx.k, Rx.s, Rx.kids]
  refine evF_inB (n := 51) (rs := [.tmp 2]) Tryd.func64 rfl rfl rfl rfl rfl rfl ?_
  by_cases h0 : k = 0
  · subst h0
    by_cases hs : s = 0 <;> by_cases hl : l.length = 0
    · repeat' (first | refine wz1 ?_ | refine wz2 ?_ | refine wz3 ?_ | refine wz4 ?_ | refine wz5 ?_ | refine wz6 ?_ | simp -dsimp (maxSteps:=999999) (disch:=omega) only[go_sem,simprocAttr, *])
      refine wz7 (fun hb => ?_) (fun hb => ?_) <;> try simp -dsimp (maxSteps:=999999) (disch:=omega) only[go_sem,simprocAttr,decide_eq_true_eq,decide_eq_false_iff_not,Bool.not_eq_true,Bool.not_eq_false,Int.not_lt,Int.not_le] at hb
      repeat' (first | refine wz1 ?_ | refine wz2 ?_ | refine wz3 ?_ | refine wz4 ?_ | refine wz5 ?_ | refine wz6 ?_ | simp -dsimp (maxSteps:=999999) (disch:=omega) only[go_sem,simprocAttr, *])
      try simp -dsimp (maxSteps:=999999) (disch:=omega) only[go_sem,simprocAttr, *,shape1, beqN_true, beqN_false, eqZ_false, or_false1]
    · repeat' (first | refine wz1 ?_ | refine wz2 ?_ | refine wz3 ?_ | refine wz4 ?_ | refine wz5 ?_ | refine wz6 ?_ | simp -dsimp (maxSteps:=999999) (disch:=omega) only[go_sem,simprocAttr, *])
      refine wz7 (fun hb => ?_) (fun hb => ?_) <;> try simp -dsimp (maxSteps:=999999) (disch:=omega) only[go_sem,simprocAttr,decide_eq_true_eq,decide_eq_false_iff_not,Bool.not_eq_true,Bool.not_eq_false,Int.not_lt,Int.not_le] at hb
      repeat' (first | refine wz1 ?_ | refine wz2 ?_ | refine wz3 ?_ | refine wz4 ?_ | refine wz5 ?_ | refine wz6 ?_ | simp -dsimp (maxSteps:=999999) (disch:=omega) only[go_sem,simprocAttr, *])
      try simp -dsimp (maxSteps:=999999) (disch:=omega) only[go_sem,simprocAttr, *,shape1, beqN_true, beqN_false, eqZ_false, or_false1]
    · repeat' (first | refine wz1 ?_ | refine wz2 ?_ | refine wz3 ?_ | refine wz4 ?_ | refine wz5 ?_ | refine wz6 ?_ | simp -dsimp (maxSteps:=999999) (disch:=omega) only[go_sem,simprocAttr, *])
      refine wz7 (fun hb => ?_) (fun hb => ?_) <;> try simp -dsimp (maxSteps:=999999) (disch:=omega) only[go_sem,simprocAttr,decide_eq_true_eq,decide_eq_false_iff_not,Bool.not_eq_true,Bool.not_eq_false,Int.not_lt,Int.not_le] at hb
      repeat' (first | refine wz1 ?_ | refine wz2 ?_ | refine wz3 ?_ | refine wz4 ?_ | refine wz5 ?_ | refine wz6 ?_ | simp -dsimp (maxSteps:=999999) (disch:=omega) only[go_sem,simprocAttr, *])
      try simp -dsimp (maxSteps:=999999) (disch:=omega) only[go_sem,simprocAttr, *,shape1, beqN_true, beqN_false, eqZ_false, or_false1]
    · repeat' (first | refine wz1 ?_ | refine wz2 ?_ | refine wz3 ?_ | refine wz4 ?_ | refine wz5 ?_ | refine wz6 ?_ | simp -dsimp (maxSteps:=999999) (disch:=omega) only[go_sem,simprocAttr, *])
      refine wz7 (fun hb => ?_) (fun hb => ?_) <;> try simp -dsimp (maxSteps:=999999) (disch:=omega) only[go_sem,simprocAttr,decide_eq_true_eq,decide_eq_false_iff_not,Bool.not_eq_true,Bool.not_eq_false,Int.not_lt,Int.not_le] at hb
      repeat' (first | refine wz1 ?_ | refine wz2 ?_ | refine wz3 ?_ | refine wz4 ?_ | refine wz5 ?_ | refine wz6 ?_ | simp -dsimp (maxSteps:=999999) (disch:=omega) only[go_sem,simprocAttr, *])
      try simp -dsimp (maxSteps:=999999) (disch:=omega) only[go_sem,simprocAttr, *,shape1, beqN_true, beqN_false, eqZ_false, or_false1]
  by_cases h1 : k = 1
  · subst h1
    by_cases hs : s = 0 <;> by_cases hl : l.length = 0
    · repeat' (first | refine wz1 ?_ | refine wz2 ?_ | refine wz3 ?_ | refine wz4 ?_ | refine wz5 ?_ | refine wz6 ?_ | simp -dsimp (maxSteps:=999999) (disch:=omega) only[go_sem,simprocAttr, *])
      refine wz7 (fun hb => ?_) (fun hb => ?_) <;> try simp -dsimp (maxSteps:=999999) (disch:=omega) only[go_sem,simprocAttr,decide_eq_true_eq,decide_eq_false_iff_not,Bool.not_eq_true,Bool.not_eq_false,Int.not_lt,Int.not_le] at hb
      repeat' (first | refine wz1 ?_ | refine wz2 ?_ | refine wz3 ?_ | refine wz4 ?_ | refine wz5 ?_ | refine wz6 ?_ | simp -dsimp (maxSteps:=999999) (disch:=omega) only[go_sem,simprocAttr, *])
      refine wz7 (fun hb => ?_) (fun hb => ?_) <;> try simp -dsimp (maxSteps:=999999) (disch:=omega) only[go_sem,simprocAttr,decide_eq_true_eq,decide_eq_false_iff_not,Bool.not_eq_true,Bool.not_eq_false,Int.not_lt,Int.not_le] at hb
      repeat' (first | refine wz1 ?_ | refine wz2 ?_ | refine wz3 ?_ | refine wz4 ?_ | refine wz5 ?_ | refine wz6 ?_ | simp -dsimp (maxSteps:=999999) (disch:=omega) only[go_sem,simprocAttr, *])
      try simp -dsimp (maxSteps:=999999) (disch:=omega) only[go_sem,simprocAttr, *,shape1, beqN_true, beqN_false, eqZ_false, or_false1]
    · repeat' (first | refine wz1 ?_ | refine wz2 ?_ | refine wz3 ?_ | refine wz4 ?_ | refine wz5 ?_ | refine wz6 ?_ | simp -dsimp (maxSteps:=999999) (disch:=omega) only[go_sem,simprocAttr, *])
      refine wz7 (fun hb => ?_) (fun hb => ?_) <;> try simp -dsimp (maxSteps:=999999) (disch:=omega) only[go_sem,simprocAttr,decide_eq_true_eq,decide_eq_false_iff_not,Bool.not_eq_true,Bool.not_eq_false,Int.not_lt,Int.not_le] at hb
      repeat' (first | refine wz1 ?_ | refine wz2 ?_ | refine wz3 ?_ | refine wz4 ?_ | refine wz5 ?_ | refine wz6 ?_ | simp -dsimp (maxSteps:=999999) (disch:=omega) only[go_sem,simprocAttr, *])
      refine wz7 (fun hb => ?_) (fun hb => ?_) <;> try simp -dsimp (maxSteps:=999999) (disch:=omega) only[go_sem,simprocAttr,decide_eq_true_eq,decide_eq_false_iff_not,Bool.not_eq_true,Bool.not_eq_false,Int.not_lt,Int.not_le] at hb
      repeat' (first | refine wz1 ?_ | refine wz2 ?_ | refine wz3 ?_ | refine wz4 ?_ | refine wz5 ?_ | refine wz6 ?_ | simp -dsimp (maxSteps:=999999) (disch:=omega) only[go_sem,simprocAttr, *])
      try simp -dsimp (maxSteps:=999999) (disch:=omega) only[go_sem,simprocAttr, *,shape1, beqN_true, beqN_false, eqZ_false, or_false1]
    · repeat' (first | refine wz1 ?_ | refine wz2 ?_ | refine wz3 ?_ | refine wz4 ?_ | refine wz5 ?_ | refine wz6 ?_ | simp -dsimp (maxSteps:=999999) (disch:=omega) only[go_sem,simprocAttr, *])
      refine wz7 (fun hb => ?_) (fun hb => ?_) <;> try simp -dsimp (maxSteps:=999999) (disch:=omega) only[go_sem,simprocAttr,decide_eq_true_eq,decide_eq_false_iff_not,Bool.not_eq_true,Bool.not_eq_false,Int.not_lt,Int.not_le] at hb
      repeat' (first | refine wz1 ?_ | refine wz2 ?_ | refine wz3 ?_ | refine wz4 ?_ | refine wz5 ?_ | refine wz6 ?_ | simp -dsimp (maxSteps:=999999) (disch:=omega) only[go_sem,simprocAttr, *])
      refine wz7 (fun hb => ?_) (fun hb => ?_) <;> try simp -dsimp (maxSteps:=999999) (disch:=omega) only[go_sem,simprocAttr,decide_eq_true_eq,decide_eq_false_iff_not,Bool.not_eq_true,Bool.not_eq_false,Int.not_lt,Int.not_le] at hb
      repeat' (first | refine wz1 ?_ | refine wz2 ?_ | refine wz3 ?_ | refine wz4 ?_ | refine wz5 ?_ | refine wz6 ?_ | simp -dsimp (maxSteps:=999999) (disch:=omega) only[go_sem,simprocAttr, *])
      try simp -dsimp (maxSteps:=999999) (disch:=omega) only[go_sem,simprocAttr, *,shape1, beqN_true, beqN_false, eqZ_false, or_false1]
    · repeat' (first | refine wz1 ?_ | refine wz2 ?_ | refine wz3 ?_ | refine wz4 ?_ | refine wz5 ?_ | refine wz6 ?_ | simp -dsimp (maxSteps:=999999) (disch:=omega) only[go_sem,simprocAttr, *])
      refine wz7 (fun hb => ?_) (fun hb => ?_) <;> try simp -dsimp (maxSteps:=999999) (disch:=omega) only[go_sem,simprocAttr,decide_eq_true_eq,decide_eq_false_iff_not,Bool.not_eq_true,Bool.not_eq_false,Int.not_lt,Int.not_le] at hb
      repeat' (first | refine wz1 ?_ | refine wz2 ?_ | refine wz3 ?_ | refine wz4 ?_ | refine wz5 ?_ | refine wz6 ?_ | simp -dsimp (maxSteps:=999999) (disch:=omega) only[go_sem,simprocAttr, *])
      refine wz7 (fun hb => ?_) (fun hb => ?_) <;> try simp -dsimp (maxSteps:=999999) (disch:=omega) only[go_sem,simprocAttr,decide_eq_true_eq,decide_eq_false_iff_not,Bool.not_eq_true,Bool.not_eq_false,Int.not_lt,Int.not_le] at hb
      repeat' (first | refine wz1 ?_ | refine wz2 ?_ | refine wz3 ?_ | refine wz4 ?_ | refine wz5 ?_ | refine wz6 ?_ | simp -dsimp (maxSteps:=999999) (disch:=omega) only[go_sem,simprocAttr, *])
      try simp -dsimp (maxSteps:=999999) (disch:=omega) only[go_sem,simprocAttr, *,shape1, beqN_true, beqN_false, eqZ_false, or_false1]
  by_cases h2 : k = 2
  · subst h2
    by_cases hs : s = 0 <;> by_cases hl : 0 < l.length
    · repeat' (first | refine wz1 ?_ | refine wz2 ?_ | refine wz3 ?_ | refine wz4 ?_ | refine wz5 ?_ | refine wz6 ?_ | simp -dsimp (maxSteps:=999999) (disch:=omega) only[go_sem,simprocAttr, *])
      refine wz7 (fun hb => ?_) (fun hb => ?_) <;> try simp -dsimp (maxSteps:=999999) (disch:=omega) only[go_sem,simprocAttr,decide_eq_true_eq,decide_eq_false_iff_not,Bool.not_eq_true,Bool.not_eq_false,Int.not_lt,Int.not_le] at hb
      repeat' (first | refine wz1 ?_ | refine wz2 ?_ | refine wz3 ?_ | refine wz4 ?_ | refine wz5 ?_ | refine wz6 ?_ | simp -dsimp (maxSteps:=999999) (disch:=omega) only[go_sem,simprocAttr, *])
      refine wz7 (fun hb => ?_) (fun hb => ?_) <;> try simp -dsimp (maxSteps:=999999) (disch:=omega) only[go_sem,simprocAttr,decide_eq_true_eq,decide_eq_false_iff_not,Bool.not_eq_true,Bool.not_eq_false,Int.not_lt,Int.not_le] at hb
      repeat' (first | refine wz1 ?_ | refine wz2 ?_ | refine wz3 ?_ | refine wz4 ?_ | refine wz5 ?_ | refine wz6 ?_ | simp -dsimp (maxSteps:=999999) (disch:=omega) only[go_sem,simprocAttr, *])
      refine wz7 (fun hb => ?_) (fun hb => ?_) <;> try simp -dsimp (maxSteps:=999999) (disch:=omega) only[go_sem,simprocAttr,decide_eq_true_eq,decide_eq_false_iff_not,Bool.not_eq_true,Bool.not_eq_false,Int.not_lt,Int.not_le] at hb
      repeat' (first | refine wz1 ?_ | refine wz2 ?_ | refine wz3 ?_ | refine wz4 ?_ | refine wz5 ?_ | refine wz6 ?_ | simp -dsimp (maxSteps:=999999) (disch:=omega) only[go_sem,simprocAttr, *])
      refine wz7 (fun hb => ?_) (fun hb => ?_) <;> try simp -dsimp (maxSteps:=999999) (disch:=omega) only[go_sem,simprocAttr,decide_eq_true_eq,decide_eq_false_iff_not,Bool.not_eq_true,Bool.not_eq_false,Int.not_lt,Int.not_le] at hb
      repeat' (first | refine wz1 ?_ | refine wz2 ?_ | refine wz3 ?_ | refine wz4 ?_ | refine wz5 ?_ | refine wz6 ?_ | simp -dsimp (maxSteps:=999999) (disch:=omega) only[go_sem,simprocAttr, *])
      try simp -dsimp (maxSteps:=999999) (disch:=omega) only[go_sem,simprocAttr, *,shape1, beqN_true, beqN_false, eqZ_false, or_false1]
    · repeat' (first | refine wz1 ?_ | refine wz2 ?_ | refine wz3 ?_ | refine wz4 ?_ | refine wz5 ?_ | refine wz6 ?_ | simp -dsimp (maxSteps:=999999) (disch:=omega) only[go_sem,simprocAttr, *])
      refine wz7 (fun hb => ?_) (fun hb => ?_) <;> try simp -dsimp (maxSteps:=999999) (disch:=omega) only[go_sem,simprocAttr,decide_eq_true_eq,decide_eq_false_iff_not,Bool.not_eq_true,Bool.not_eq_false,Int.not_lt,Int.not_le] at hb
      repeat' (first | refine wz1 ?_ | refine wz2 ?_ | refine wz3 ?_ | refine wz4 ?_ | refine wz5 ?_ | refine wz6 ?_ | simp -dsimp (maxSteps:=999999) (disch:=omega) only[go_sem,simprocAttr, *])
      refine wz7 (fun hb => ?_) (fun hb => ?_) <;> try simp -dsimp (maxSteps:=999999) (disch:=omega) only[go_sem,simprocAttr,decide_eq_true_eq,decide_eq_false_iff_not,Bool.not_eq_true,Bool.not_eq_false,Int.not_lt,Int.not_le] at hb
      repeat' (first | refine wz1 ?_ | refine wz2 ?_ | refine wz3 ?_ | refine wz4 ?_ | refine wz5 ?_ | refine wz6 ?_ | simp -dsimp (maxSteps:=999999) (disch:=omega) only[go_sem,simprocAttr, *])
      refine wz7 (fun hb => ?_) (fun hb => ?_) <;> try simp -dsimp (maxSteps:=999999) (disch:=omega) only[go_sem,simprocAttr,decide_eq_true_eq,decide_eq_false_iff_not,Bool.not_eq_true,Bool.not_eq_false,Int.not_lt,Int.not_le] at hb
      repeat' (first | refine wz1 ?_ | refine wz2 ?_ | refine wz3 ?_ | refine wz4 ?_ | refine wz5 ?_ | refine wz6 ?_ | simp -dsimp (maxSteps:=999999) (disch:=omega) only[go_sem,simprocAttr, *])
      refine wz7 (fun hb => ?_) (fun hb => ?_) <;> try simp -dsimp (maxSteps:=999999) (disch:=omega) only[go_sem,simprocAttr,decide_eq_true_eq,decide_eq_false_iff_not,Bool.not_eq_true,Bool.not_eq_false,Int.not_lt,Int.not_le] at hb
      repeat' (first | refine wz1 ?_ | refine wz2 ?_ | refine wz3 ?_ | refine wz4 ?_ | refine wz5 ?_ | refine wz6 ?_ | simp -dsimp (maxSteps:=999999) (disch:=omega) only[go_sem,simprocAttr, *])
      try simp -dsimp (maxSteps:=999999) (disch:=omega) only[go_sem,simprocAttr, *,shape1, beqN_true, beqN_false, eqZ_false, or_false1]
    · repeat' (first | refine wz1 ?_ | refine wz2 ?_ | refine wz3 ?_ | refine wz4 ?_ | refine wz5 ?_ | refine wz6 ?_ | simp -dsimp (maxSteps:=999999) (disch:=omega) only[go_sem,simprocAttr, *])
      refine wz7 (fun hb => ?_) (fun hb => ?_) <;> try simp -dsimp (maxSteps:=999999) (disch:=omega) only[go_sem,simprocAttr,decide_eq_true_eq,decide_eq_false_iff_not,Bool.not_eq_true,Bool.not_eq_false,Int.not_lt,Int.not_le] at hb
      repeat' (first | refine wz1 ?_ | refine wz2 ?_ | refine wz3 ?_ | refine wz4 ?_ | refine wz5 ?_ | refine wz6 ?_ | simp -dsimp (maxSteps:=999999) (disch:=omega) only[go_sem,simprocAttr, *])
      refine wz7 (fun hb => ?_) (fun hb => ?_) <;> try simp -dsimp (maxSteps:=999999) (disch:=omega) only[go_sem,simprocAttr,decide_eq_true_eq,decide_eq_false_iff_not,Bool.not_eq_true,Bool.not_eq_false,Int.not_lt,Int.not_le] at hb
      repeat' (first | refine wz1 ?_ | refine wz2 ?_ | refine wz3 ?_ | refine wz4 ?_ | refine wz5 ?_ | refine wz6 ?_ | simp -dsimp (maxSteps:=999999) (disch:=omega) only[go_sem,simprocAttr, *])
      refine wz7 (fun hb => ?_) (fun hb => ?_) <;> try simp -dsimp (maxSteps:=999999) (disch:=omega) only[go_sem,simprocAttr,decide_eq_true_eq,decide_eq_false_iff_not,Bool.not_eq_true,Bool.not_eq_false,Int.not_lt,Int.not_le] at hb
      repeat' (first | refine wz1 ?_ | refine wz2 ?_ | refine wz3 ?_ | refine wz4 ?_ | refine wz5 ?_ | refine wz6 ?_ | simp -dsimp (maxSteps:=999999) (disch:=omega) only[go_sem,simprocAttr, *])
      refine wz7 (fun hb => ?_) (fun hb => ?_) <;> try simp -dsimp (maxSteps:=999999) (disch:=omega) only[go_sem,simprocAttr,decide_eq_true_eq,decide_eq_false_iff_not,Bool.not_eq_true,Bool.not_eq_false,Int.not_lt,Int.not_le] at hb
      repeat' (first | refine wz1 ?_ | refine wz2 ?_ | refine wz3 ?_ | refine wz4 ?_ | refine wz5 ?_ | refine wz6 ?_ | simp -dsimp (maxSteps:=999999) (disch:=omega) only[go_sem,simprocAttr, *])
      try simp -dsimp (maxSteps:=999999) (disch:=omega) only[go_sem,simprocAttr, *,shape1, beqN_true, beqN_false, eqZ_false, or_false1]
    · repeat' (first | refine wz1 ?_ | refine wz2 ?_ | refine wz3 ?_ | refine wz4 ?_ | refine wz5 ?_ | refine wz6 ?_ | simp -dsimp (maxSteps:=999999) (disch:=omega) only[go_sem,simprocAttr, *])
      refine wz7 (fun hb => ?_) (fun hb => ?_) <;> try simp -dsimp (maxSteps:=999999) (disch:=omega) only[go_sem,simprocAttr,decide_eq_true_eq,decide_eq_false_iff_not,Bool.not_eq_true,Bool.not_eq_false,Int.not_lt,Int.not_le] at hb
      repeat' (first | refine wz1 ?_ | refine wz2 ?_ | refine wz3 ?_ | refine wz4 ?_ | refine wz5 ?_ | refine wz6 ?_ | simp -dsimp (maxSteps:=999999) (disch:=omega) only[go_sem,simprocAttr, *])
      refine wz7 (fun hb => ?_) (fun hb => ?_) <;> try simp -dsimp (maxSteps:=999999) (disch:=omega) only[go_sem,simprocAttr,decide_eq_true_eq,decide_eq_false_iff_not,Bool.not_eq_true,Bool.not_eq_false,Int.not_lt,Int.not_le] at hb
      repeat' (first | refine wz1 ?_ | refine wz2 ?_ | refine wz3 ?_ | refine wz4 ?_ | refine wz5 ?_ | refine wz6 ?_ | simp -dsimp (maxSteps:=999999) (disch:=omega) only[go_sem,simprocAttr, *])
      refine wz7 (fun hb => ?_) (fun hb => ?_) <;> try simp -dsimp (maxSteps:=999999) (disch:=omega) only[go_sem,simprocAttr,decide_eq_true_eq,decide_eq_false_iff_not,Bool.not_eq_true,Bool.not_eq_false,Int.not_lt,Int.not_le] at hb
      repeat' (first | refine wz1 ?_ | refine wz2 ?_ | refine wz3 ?_ | refine wz4 ?_ | refine wz5 ?_ | refine wz6 ?_ | simp -dsimp (maxSteps:=999999) (disch:=omega) only[go_sem,simprocAttr, *])
      refine wz7 (fun hb => ?_) (fun hb => ?_) <;> try simp -dsimp (maxSteps:=999999) (disch:=omega) only[go_sem,simprocAttr,decide_eq_true_eq,decide_eq_false_iff_not,Bool.not_eq_true,Bool.not_eq_false,Int.not_lt,Int.not_le] at hb
      repeat' (first | refine wz1 ?_ | refine wz2 ?_ | refine wz3 ?_ | refine wz4 ?_ | refine wz5 ?_ | refine wz6 ?_ | simp -dsimp (maxSteps:=999999) (disch:=omega) only[go_sem,simprocAttr, *])
      try simp -dsimp (maxSteps:=999999) (disch:=omega) only[go_sem,simprocAttr, *,shape1, beqN_true, beqN_false, eqZ_false, or_false1]
  by_cases h3 : k = 3
  · subst h3
    by_cases hs : s = 0 <;> by_cases hl : 0 < l.length
    · repeat' (first | refine wz1 ?_ | refine wz2 ?_ | refine wz3 ?_ | refine wz4 ?_ | refine wz5 ?_ | refine wz6 ?_ | simp -dsimp (maxSteps:=999999) (disch:=omega) only[go_sem,simprocAttr, *])
      refine wz7 (fun hb => ?_) (fun hb => ?_) <;> try simp -dsimp (maxSteps:=999999) (disch:=omega) only[go_sem,simprocAttr,decide_eq_true_eq,decide_eq_false_iff_not,Bool.not_eq_true,Bool.not_eq_false,Int.not_lt,Int.not_le] at hb
      repeat' (first | refine wz1 ?_ | refine wz2 ?_ | refine wz3 ?_ | refine wz4 ?_ | refine wz5 ?_ | refine wz6 ?_ | simp -dsimp (maxSteps:=999999) (disch:=omega) only[go_sem,simprocAttr, *])
      refine wz7 (fun hb => ?_) (fun hb => ?_) <;> try simp -dsimp (maxSteps:=999999) (disch:=omega) only[go_sem,simprocAttr,decide_eq_true_eq,decide_eq_false_iff_not,Bool.not_eq_true,Bool.not_eq_false,Int.not_lt,Int.not_le] at hb
      repeat' (first | refine wz1 ?_ | refine wz2 ?_ | refine wz3 ?_ | refine wz4 ?_ | refine wz5 ?_ | refine wz6 ?_ | simp -dsimp (maxSteps:=999999) (disch:=omega) only[go_sem,simprocAttr, *])
      refine wz7 (fun hb => ?_) (fun hb => ?_) <;> try simp -dsimp (maxSteps:=999999) (disch:=omega) only[go_sem,simprocAttr,decide_eq_true_eq,decide_eq_false_iff_not,Bool.not_eq_true,Bool.not_eq_false,Int.not_lt,Int.not_le] at hb
      repeat' (first | refine wz1 ?_ | refine wz2 ?_ | refine wz3 ?_ | refine wz4 ?_ | refine wz5 ?_ | refine wz6 ?_ | simp -dsimp (maxSteps:=999999) (disch:=omega) only[go_sem,simprocAttr, *])
      refine wz7 (fun hb => ?_) (fun hb => ?_) <;> try simp -dsimp (maxSteps:=999999) (disch:=omega) only[go_sem,simprocAttr,decide_eq_true_eq,decide_eq_false_iff_not,Bool.not_eq_true,Bool.not_eq_false,Int.not_lt,Int.not_le] at hb
      repeat' (first | refine wz1 ?_ | refine wz2 ?_ | refine wz3 ?_ | refine wz4 ?_ | refine wz5 ?_ | refine wz6 ?_ | simp -dsimp (maxSteps:=999999) (disch:=omega) only[go_sem,simprocAttr, *])
      try simp -dsimp (maxSteps:=999999) (disch:=omega) only[go_sem,simprocAttr, *,shape1, beqN_true, beqN_false, eqZ_false, or_false1]
    · repeat' (first | refine wz1 ?_ | refine wz2 ?_ | refine wz3 ?_ | refine wz4 ?_ | refine wz5 ?_ | refine wz6 ?_ | simp -dsimp (maxSteps:=999999) (disch:=omega) only[go_sem,simprocAttr, *])
      refine wz7 (fun hb => ?_) (fun hb => ?_) <;> try simp -dsimp (maxSteps:=999999) (disch:=omega) only[go_sem,simprocAttr,decide_eq_true_eq,decide_eq_false_iff_not,Bool.not_eq_true,Bool.not_eq_false,Int.not_lt,Int.not_le] at hb
      repeat' (first | refine wz1 ?_ | refine wz2 ?_ | refine wz3 ?_ | refine wz4 ?_ | refine wz5 ?_ | refine wz6 ?_ | simp -dsimp (maxSteps:=999999) (disch:=omega) only[go_sem,simprocAttr, *])
      refine wz7 (fun hb => ?_) (fun hb => ?_) <;> try simp -dsimp (maxSteps:=999999) (disch:=omega) only[go_sem,simprocAttr,decide_eq_true_eq,decide_eq_false_iff_not,Bool.not_eq_true,Bool.not_eq_false,Int.not_lt,Int.not_le] at hb
      repeat' (first | refine wz1 ?_ | refine wz2 ?_ | refine wz3 ?_ | refine wz4 ?_ | refine wz5 ?_ | refine wz6 ?_ | simp -dsimp (maxSteps:=999999) (disch:=omega) only[go_sem,simprocAttr, *])
      refine wz7 (fun hb => ?_) (fun hb => ?_) <;> try simp -dsimp (maxSteps:=999999) (disch:=omega) only[go_sem,simprocAttr,decide_eq_true_eq,decide_eq_false_iff_not,Bool.not_eq_true,Bool.not_eq_false,Int.not_lt,Int.not_le] at hb
      repeat' (first | refine wz1 ?_ | refine wz2 ?_ | refine wz3 ?_ | refine wz4 ?_ | refine wz5 ?_ | refine wz6 ?_ | simp -dsimp (maxSteps:=999999) (disch:=omega) only[go_sem,simprocAttr, *])
      refine wz7 (fun hb => ?_) (fun hb => ?_) <;> try simp -dsimp (maxSteps:=999999) (disch:=omega) only[go_sem,simprocAttr,decide_eq_true_eq,decide_eq_false_iff_not,Bool.not_eq_true,Bool.not_eq_false,Int.not_lt,Int.not_le] at hb
      repeat' (first | refine wz1 ?_ | refine wz2 ?_ | refine wz3 ?_ | refine wz4 ?_ | refine wz5 ?_ | refine wz6 ?_ | simp -dsimp (maxSteps:=999999) (disch:=omega) only[go_sem,simprocAttr, *])
      try simp -dsimp (maxSteps:=999999) (disch:=omega) only[go_sem,simprocAttr, *,shape1, beqN_true, beqN_false, eqZ_false, or_false1]
    · repeat' (first | refine wz1 ?_ | refine wz2 ?_ | refine wz3 ?_ | refine wz4 ?_ | refine wz5 ?_ | refine wz6 ?_ | simp -dsimp (maxSteps:=999999) (disch:=omega) only[go_sem,simprocAttr, *])
      refine wz7 (fun hb => ?_) (fun hb => ?_) <;> try simp -dsimp (maxSteps:=999999) (disch:=omega) only[go_sem,simprocAttr,decide_eq_true_eq,decide_eq_false_iff_not,Bool.not_eq_true,Bool.not_eq_false,Int.not_lt,Int.not_le] at hb
      repeat' (first | refine wz1 ?_ | refine wz2 ?_ | refine wz3 ?_ | refine wz4 ?_ | refine wz5 ?_ | refine wz6 ?_ | simp -dsimp (maxSteps:=999999) (disch:=omega) only[go_sem,simprocAttr, *])
      refine wz7 (fun hb => ?_) (fun hb => ?_) <;> try simp -dsimp (maxSteps:=999999) (disch:=omega) only[go_sem,simprocAttr,decide_eq_true_eq,decide_eq_false_iff_not,Bool.not_eq_true,Bool.not_eq_false,Int.not_lt,Int.not_le] at hb
      repeat' (first | refine wz1 ?_ | refine wz2 ?_ | refine wz3 ?_ | refine wz4 ?_ | refine wz5 ?_ | refine wz6 ?_ | simp -dsimp (maxSteps:=999999) (disch:=omega) only[go_sem,simprocAttr, *])
      refine wz7 (fun hb => ?_) (fun hb => ?_) <;> try simp -dsimp (maxSteps:=999999) (disch:=omega) only[go_sem,simprocAttr,decide_eq_true_eq,decide_eq_false_iff_not,Bool.not_eq_true,Bool.not_eq_false,Int.not_lt,Int.not_le] at hb
      repeat' (first | refine wz1 ?_ | refine wz2 ?_ | refine wz3 ?_ | refine wz4 ?_ | refine wz5 ?_ | refine wz6 ?_ | simp -dsimp (maxSteps:=999999) (disch:=omega) only[go_sem,simprocAttr, *])
      refine wz7 (fun hb => ?_) (fun hb => ?_) <;> try simp -dsimp (maxSteps:=999999) (disch:=omega) only[go_sem,simprocAttr,decide_eq_true_eq,decide_eq_false_iff_not,Bool.not_eq_true,Bool.not_eq_false,Int.not_lt,Int.not_le] at hb
      repeat' (first | refine wz1 ?_ | refine wz2 ?_ | refine wz3 ?_ | refine wz4 ?_ | refine wz5 ?_ | refine wz6 ?_ | simp -dsimp (maxSteps:=999999) (disch:=omega) only[go_sem,simprocAttr, *])
      try simp -dsimp (maxSteps:=999999) (disch:=omega) only[go_sem,simprocAttr, *,shape1, beqN_true, beqN_false, eqZ_false, or_false1]
    · repeat' (first | refine wz1 ?_ | refine wz2 ?_ | refine wz3 ?_ | refine wz4 ?_ | refine wz5 ?_ | refine wz6 ?_ | simp -dsimp (maxSteps:=999999) (disch:=omega) only[go_sem,simprocAttr, *])
      refine wz7 (fun hb => ?_) (fun hb => ?_) <;> try simp -dsimp (maxSteps:=999999) (disch:=omega) only[go_sem,simprocAttr,decide_eq_true_eq,decide_eq_false_iff_not,Bool.not_eq_true,Bool.not_eq_false,Int.not_lt,Int.not_le] at hb
      repeat' (first | refine wz1 ?_ | refine wz2 ?_ | refine wz3 ?_ | refine wz4 ?_ | refine wz5 ?_ | refine wz6 ?_ | simp -dsimp (maxSteps:=999999) (disch:=omega) only[go_sem,simprocAttr, *])
      refine wz7 (fun hb => ?_) (fun hb => ?_) <;> try simp -dsimp (maxSteps:=999999) (disch:=omega) only[go_sem,simprocAttr,decide_eq_true_eq,decide_eq_false_iff_not,Bool.not_eq_true,Bool.not_eq_false,Int.not_lt,Int.not_le] at hb
      repeat' (first | refine wz1 ?_ | refine wz2 ?_ | refine wz3 ?_ | refine wz4 ?_ | refine wz5 ?_ | refine wz6 ?_ | simp -dsimp (maxSteps:=999999) (disch:=omega) only[go_sem,simprocAttr, *])
      refine wz7 (fun hb => ?_) (fun hb => ?_) <;> try simp -dsimp (maxSteps:=999999) (disch:=omega) only[go_sem,simprocAttr,decide_eq_true_eq,decide_eq_false_iff_not,Bool.not_eq_true,Bool.not_eq_false,Int.not_lt,Int.not_le] at hb
      repeat' (first | refine wz1 ?_ | refine wz2 ?_ | refine wz3 ?_ | refine wz4 ?_ | refine wz5 ?_ | refine wz6 ?_ | simp -dsimp (maxSteps:=999999) (disch:=omega) only[go_sem,simprocAttr, *])
      refine wz7 (fun hb => ?_) (fun hb => ?_) <;> try simp -dsimp (maxSteps:=999999) (disch:=omega) only[go_sem,simprocAttr,decide_eq_true_eq,decide_eq_false_iff_not,Bool.not_eq_true,Bool.not_eq_false,Int.not_lt,Int.not_le] at hb
      repeat' (first | refine wz1 ?_ | refine wz2 ?_ | refine wz3 ?_ | refine wz4 ?_ | refine wz5 ?_ | refine wz6 ?_ | simp -dsimp (maxSteps:=999999) (disch:=omega) only[go_sem,simprocAttr, *])
      try simp -dsimp (maxSteps:=999999) (disch:=omega) only[go_sem,simprocAttr, *,shape1, beqN_true, beqN_false, eqZ_false, or_false1]
  by_cases h4 : k = 4
  · subst h4
    by_cases hs : s = 0 <;> by_cases hl : l.length = 1
    · repeat' (first | refine wz1 ?_ | refine wz2 ?_ | refine wz3 ?_ | refine wz4 ?_ | refine wz5 ?_ | refine wz6 ?_ | simp -dsimp (maxSteps:=999999) (disch:=omega) only[go_sem,simprocAttr, *])
      refine wz7 (fun hb => ?_) (fun hb => ?_) <;> try simp -dsimp (maxSteps:=999999) (disch:=omega) only[go_sem,simprocAttr,decide_eq_true_eq,decide_eq_false_iff_not,Bool.not_eq_true,Bool.not_eq_false,Int.not_lt,Int.not_le] at hb
      repeat' (first | refine wz1 ?_ | refine wz2 ?_ | refine wz3 ?_ | refine wz4 ?_ | refine wz5 ?_ | refine wz6 ?_ | simp -dsimp (maxSteps:=999999) (disch:=omega) only[go_sem,simprocAttr, *])
      refine wz7 (fun hb => ?_) (fun hb => ?_) <;> try simp -dsimp (maxSteps:=999999) (disch:=omega) only[go_sem,simprocAttr,decide_eq_true_eq,decide_eq_false_iff_not,Bool.not_eq_true,Bool.not_eq_false,Int.not_lt,Int.not_le] at hb
      repeat' (first | refine wz1 ?_ | refine wz2 ?_ | refine wz3 ?_ | refine wz4 ?_ | refine wz5 ?_ | refine wz6 ?_ | simp -dsimp (maxSteps:=999999) (disch:=omega) only[go_sem,simprocAttr, *])
      refine wz7 (fun hb => ?_) (fun hb => ?_) <;> try simp -dsimp (maxSteps:=999999) (disch:=omega) only[go_sem,simprocAttr,decide_eq_true_eq,decide_eq_false_iff_not,Bool.not_eq_true,Bool.not_eq_false,Int.not_lt,Int.not_le] at hb
      repeat' (first | refine wz1 ?_ | refine wz2 ?_ | refine wz3 ?_ | refine wz4 ?_ | refine wz5 ?_ | refine wz6 ?_ | simp -dsimp (maxSteps:=999999) (disch:=omega) only[go_sem,simprocAttr, *])
      refine wz7 (fun hb => ?_) (fun hb => ?_) <;> try simp -dsimp (maxSteps:=999999) (disch:=omega) only[go_sem,simprocAttr,decide_eq_true_eq,decide_eq_false_iff_not,Bool.not_eq_true,Bool.not_eq_false,Int.not_lt,Int.not_le] at hb
      repeat' (first | refine wz1 ?_ | refine wz2 ?_ | refine wz3 ?_ | refine wz4 ?_ | refine wz5 ?_ | refine wz6 ?_ | simp -dsimp (maxSteps:=999999) (disch:=omega) only[go_sem,simprocAttr, *])
      refine wz7 (fun hb => ?_) (fun hb => ?_) <;> try simp -dsimp (maxSteps:=999999) (disch:=omega) only[go_sem,simprocAttr,decide_eq_true_eq,decide_eq_false_iff_not,Bool.not_eq_true,Bool.not_eq_false,Int.not_lt,Int.not_le] at hb
      repeat' (first | refine wz1 ?_ | refine wz2 ?_ | refine wz3 ?_ | refine wz4 ?_ | refine wz5 ?_ | refine wz6 ?_ | simp -dsimp (maxSteps:=999999) (disch:=omega) only[go_sem,simprocAttr, *])
      refine wz7 (fun hb => ?_) (fun hb => ?_) <;> try simp -dsimp (maxSteps:=999999) (disch:=omega) only[go_sem,simprocAttr,decide_eq_true_eq,decide_eq_false_iff_not,Bool.not_eq_true,Bool.not_eq_false,Int.not_lt,Int.not_le] at hb
      repeat' (first | refine wz1 ?_ | refine wz2 ?_ | refine wz3 ?_ | refine wz4 ?_ | refine wz5 ?_ | refine wz6 ?_ | simp -dsimp (maxSteps:=999999) (disch:=omega) only[go_sem,simprocAttr, *])
      try simp -dsimp (maxSteps:=999999) (disch:=omega) only[go_sem,simprocAttr, *,shape1, beqN_true, beqN_false, eqZ_false, or_false1]
    · repeat' (first | refine wz1 ?_ | refine wz2 ?_ | refine wz3 ?_ | refine wz4 ?_ | refine wz5 ?_ | refine wz6 ?_ | simp -dsimp (maxSteps:=999999) (disch:=omega) only[go_sem,simprocAttr, *])
      refine wz7 (fun hb => ?_) (fun hb => ?_) <;> try simp -dsimp (maxSteps:=999999) (disch:=omega) only[go_sem,simprocAttr,decide_eq_true_eq,decide_eq_false_iff_not,Bool.not_eq_true,Bool.not_eq_false,Int.not_lt,Int.not_le] at hb
      repeat' (first | refine wz1 ?_ | refine wz2 ?_ | refine wz3 ?_ | refine wz4 ?_ | refine wz5 ?_ | refine wz6 ?_ | simp -dsimp (maxSteps:=999999) (disch:=omega) only[go_sem,simprocAttr, *])
      refine wz7 (fun hb => ?_) (fun hb => ?_) <;> try simp -dsimp (maxSteps:=999999) (disch:=omega) only[go_sem,simprocAttr,decide_eq_true_eq,decide_eq_false_iff_not,Bool.not_eq_true,Bool.not_eq_false,Int.not_lt,Int.not_le] at hb
      repeat' (first | refine wz1 ?_ | refine wz2 ?_ | refine wz3 ?_ | refine wz4 ?_ | refine wz5 ?_ | refine wz6 ?_ | simp -dsimp (maxSteps:=999999) (disch:=omega) only[go_sem,simprocAttr, *])
      refine wz7 (fun hb => ?_) (fun hb => ?_) <;> try simp -dsimp (maxSteps:=999999) (disch:=omega) only[go_sem,simprocAttr,decide_eq_true_eq,decide_eq_false_iff_not,Bool.not_eq_true,Bool.not_eq_false,Int.not_lt,Int.not_le] at hb
      repeat' (first | refine wz1 ?_ | refine wz2 ?_ | refine wz3 ?_ | refine wz4 ?_ | refine wz5 ?_ | refine wz6 ?_ | simp -dsimp (maxSteps:=999999) (disch:=omega) only[go_sem,simprocAttr, *])
      refine wz7 (fun hb => ?_) (fun hb => ?_) <;> try simp -dsimp (maxSteps:=999999) (disch:=omega) only[go_sem,simprocAttr,decide_eq_true_eq,decide_eq_false_iff_not,Bool.not_eq_true,Bool.not_eq_false,Int.not_lt,Int.not_le] at hb
      repeat' (first | refine wz1 ?_ | refine wz2 ?_ | refine wz3 ?_ | refine wz4 ?_ | refine wz5 ?_ | refine wz6 ?_ | simp -dsimp (maxSteps:=999999) (disch:=omega) only[go_sem,simprocAttr, *])
      refine wz7 (fun hb => ?_) (fun hb => ?_) <;> try simp -dsimp (maxSteps:=999999) (disch:=omega) only[go_sem,simprocAttr,decide_eq_true_eq,decide_eq_false_iff_not,Bool.not_eq_true,Bool.not_eq_false,Int.not_lt,Int.not_le] at hb
      repeat' (first | refine wz1 ?_ | refine wz2 ?_ | refine wz3 ?_ | refine wz4 ?_ | refine wz5 ?_ | refine wz6 ?_ | simp -dsimp (maxSteps:=999999) (disch:=omega) only[go_sem,simprocAttr, *])
      refine wz7 (fun hb => ?_) (fun hb => ?_) <;> try simp -dsimp (maxSteps:=999999) (disch:=omega) only[go_sem,simprocAttr,decide_eq_true_eq,decide_eq_false_iff_not,Bool.not_eq_true,Bool.not_eq_false,Int.not_lt,Int.not_le] at hb
      repeat' (first | refine wz1 ?_ | refine wz2 ?_ | refine wz3 ?_ | refine wz4 ?_ | refine wz5 ?_ | refine wz6 ?_ | simp -dsimp (maxSteps:=999999) (disch:=omega) only[go_sem,simprocAttr, *])
      try simp -dsimp (maxSteps:=999999) (disch:=omega) only[go_sem,simprocAttr, *,shape1, beqN_true, beqN_false, eqZ_false, or_false1]
    · repeat' (first | refine wz1 ?_ | refine wz2 ?_ | refine wz3 ?_ | refine wz4 ?_ | refine wz5 ?_ | refine wz6 ?_ | simp -dsimp (maxSteps:=999999) (disch:=omega) only[go_sem,simprocAttr, *])
      refine wz7 (fun hb => ?_) (fun hb => ?_) <;> try simp -dsimp (maxSteps:=999999) (disch:=omega) only[go_sem,simprocAttr,decide_eq_true_eq,decide_eq_false_iff_not,Bool.not_eq_true,Bool.not_eq_false,Int.not_lt,Int.not_le] at hb
      repeat' (first | refine wz1 ?_ | refine wz2 ?_ | refine wz3 ?_ | refine wz4 ?_ | refine wz5 ?_ | refine wz6 ?_ | simp -dsimp (maxSteps:=999999) (disch:=omega) only[go_sem,simprocAttr, *])
      refine wz7 (fun hb => ?_) (fun hb => ?_) <;> try simp -dsimp (maxSteps:=999999) (disch:=omega) only[go_sem,simprocAttr,decide_eq_true_eq,decide_eq_false_iff_not,Bool.not_eq_true,Bool.not_eq_false,Int.not_lt,Int.not_le] at hb
      repeat' (first | refine wz1 ?_ | refine wz2 ?_ | refine wz3 ?_ | refine wz4 ?_ | refine wz5 ?_ | refine wz6 ?_ | simp -dsimp (maxSteps:=999999) (disch:=omega) only[go_sem,simprocAttr, *])
      refine wz7 (fun hb => ?_) (fun hb => ?_) <;> try simp -dsimp (maxSteps:=999999) (disch:=omega) only[go_sem,simprocAttr,decide_eq_true_eq,decide_eq_false_iff_not,Bool.not_eq_true,Bool.not_eq_false,Int.not_lt,Int.not_le] at hb
      repeat' (first | refine wz1 ?_ | refine wz2 ?_ | refine wz3 ?_ | refine wz4 ?_ | refine wz5 ?_ | refine wz6 ?_ | simp -dsimp (maxSteps:=999999) (disch:=omega) only[go_sem,simprocAttr, *])
      refine wz7 (fun hb => ?_) (fun hb => ?_) <;> try simp -dsimp (maxSteps:=999999) (disch:=omega) only[go_sem,simprocAttr,decide_eq_true_eq,decide_eq_false_iff_not,Bool.not_eq_true,Bool.not_eq_false,Int.not_lt,Int.not_le] at hb
      repeat' (first | refine wz1 ?_ | refine wz2 ?_ | refine wz3 ?_ | refine wz4 ?_ | refine wz5 ?_ | refine wz6 ?_ | simp -dsimp (maxSteps:=999999) (disch:=omega) only[go_sem,simprocAttr, *])
      refine wz7 (fun hb => ?_) (fun hb => ?_) <;> try simp -dsimp (maxSteps:=999999) (disch:=omega) only[go_sem,simprocAttr,decide_eq_true_eq,decide_eq_false_iff_not,Bool.not_eq_true,Bool.not_eq_false,Int.not_lt,Int.not_le] at hb
      repeat' (first | refine wz1 ?_ | refine wz2 ?_ | refine wz3 ?_ | refine wz4 ?_ | refine wz5 ?_ | refine wz6 ?_ | simp -dsimp (maxSteps:=999999) (disch:=omega) only[go_sem,simprocAttr, *])
      refine wz7 (fun hb => ?_) (fun hb => ?_) <;> try simp -dsimp (maxSteps:=999999) (disch:=omega) only[go_sem,simprocAttr,decide_eq_true_eq,decide_eq_false_iff_not,Bool.not_eq_true,Bool.not_eq_false,Int.not_lt,Int.not_le] at hb
      repeat' (first | refine wz1 ?_ | refine wz2 ?_ | refine wz3 ?_ | refine wz4 ?_ | refine wz5 ?_ | refine wz6 ?_ | simp -dsimp (maxSteps:=999999) (disch:=omega) only[go_sem,simprocAttr, *])
      try simp -dsimp (maxSteps:=999999) (disch:=omega) only[go_sem,simprocAttr, *,shape1, beqN_true, beqN_false, eqZ_false, or_false1]
    · repeat' (first | refine wz1 ?_ | refine wz2 ?_ | refine wz3 ?_ | refine wz4 ?_ | refine wz5 ?_ | refine wz6 ?_ | simp -dsimp (maxSteps:=999999) (disch:=omega) only[go_sem,simprocAttr, *])
      refine wz7 (fun hb => ?_) (fun hb => ?_) <;> try simp -dsimp (maxSteps:=999999) (disch:=omega) only[go_sem,simprocAttr,decide_eq_true_eq,decide_eq_false_iff_not,Bool.not_eq_true,Bool.not_eq_false,Int.not_lt,Int.not_le] at hb
      repeat' (first | refine wz1 ?_ | refine wz2 ?_ | refine wz3 ?_ | refine wz4 ?_ | refine wz5 ?_ | refine wz6 ?_ | simp -dsimp (maxSteps:=999999) (disch:=omega) only[go_sem,simprocAttr, *])
      refine wz7 (fun hb => ?_) (fun hb => ?_) <;> try simp -dsimp (maxSteps:=999999) (disch:=omega) only[go_sem,simprocAttr,decide_eq_true_eq,decide_eq_false_iff_not,Bool.not_eq_true,Bool.not_eq_false,Int.not_lt,Int.not_le] at hb
      repeat' (first | refine wz1 ?_ | refine wz2 ?_ | refine wz3 ?_ | refine wz4 ?_ | refine wz5 ?_ | refine wz6 ?_ | simp -dsimp (maxSteps:=999999) (disch:=omega) only[go_sem,simprocAttr, *])
      refine wz7 (fun hb => ?_) (fun hb => ?_) <;> try simp -dsimp (maxSteps:=999999) (disch:=omega) only[go_sem,simprocAttr,decide_eq_true_eq,decide_eq_false_iff_not,Bool.not_eq_true,Bool.not_eq_false,Int.not_lt,Int.not_le] at hb
      repeat' (first | refine wz1 ?_ | refine wz2 ?_ | refine wz3 ?_ | refine wz4 ?_ | refine wz5 ?_ | refine wz6 ?_ | simp -dsimp (maxSteps:=999999) (disch:=omega) only[go_sem,simprocAttr, *])
      refine wz7 (fun hb => ?_) (fun hb => ?_) <;> try simp -dsimp (maxSteps:=999999) (disch:=omega) only[go_sem,simprocAttr,decide_eq_true_eq,decide_eq_false_iff_not,Bool.not_eq_true,Bool.not_eq_false,Int.not_lt,Int.not_le] at hb
      repeat' (first | refine wz1 ?_ | refine wz2 ?_ | refine wz3 ?_ | refine wz4 ?_ | refine wz5 ?_ | refine wz6 ?_ | simp -dsimp (maxSteps:=999999) (disch:=omega) only[go_sem,simprocAttr, *])
      refine wz7 (fun hb => ?_) (fun hb => ?_) <;> try simp -dsimp (maxSteps:=999999) (disch:=omega) only[go_sem,simprocAttr,decide_eq_true_eq,decide_eq_false_iff_not,Bool.not_eq_true,Bool.not_eq_false,Int.not_lt,Int.not_le] at hb
      repeat' (first | refine wz1 ?_ | refine wz2 ?_ | refine wz3 ?_ | refine wz4 ?_ | refine wz5 ?_ | refine wz6 ?_ | simp -dsimp (maxSteps:=999999) (disch:=omega) only[go_sem,simprocAttr, *])
      refine wz7 (fun hb => ?_) (fun hb => ?_) <;> try simp -dsimp (maxSteps:=999999) (disch:=omega) only[go_sem,simprocAttr,decide_eq_true_eq,decide_eq_false_iff_not,Bool.not_eq_true,Bool.not_eq_false,Int.not_lt,Int.not_le] at hb
      repeat' (first | refine wz1 ?_ | refine wz2 ?_ | refine wz3 ?_ | refine wz4 ?_ | refine wz5 ?_ | refine wz6 ?_ | simp -dsimp (maxSteps:=999999) (disch:=omega) only[go_sem,simprocAttr, *])
      try simp -dsimp (maxSteps:=999999) (disch:=omega) only[go_sem,simprocAttr, *,shape1, beqN_true, beqN_false, eqZ_false, or_false1]
  by_cases h5 : k = 5
  · subst h5
    by_cases hs : s = 0 <;> by_cases hl : l.length = 1
    · repeat' (first | refine wz1 ?_ | refine wz2 ?_ | refine wz3 ?_ | refine wz4 ?_ | refine wz5 ?_ | refine wz6 ?_ | simp -dsimp (maxSteps:=999999) (disch:=omega) only[go_sem,simprocAttr, *])
      refine wz7 (fun hb => ?_) (fun hb => ?_) <;> try simp -dsimp (maxSteps:=999999) (disch:=omega) only[go_sem,simprocAttr,decide_eq_true_eq,decide_eq_false_iff_not,Bool.not_eq_true,Bool.not_eq_false,Int.not_lt,Int.not_le] at hb
      repeat' (first | refine wz1 ?_ | refine wz2 ?_ | refine wz3 ?_ | refine wz4 ?_ | refine wz5 ?_ | refine wz6 ?_ | simp -dsimp (maxSteps:=999999) (disch:=omega) only[go_sem,simprocAttr, *])
      refine wz7 (fun hb => ?_) (fun hb => ?_) <;> try simp -dsimp (maxSteps:=999999) (disch:=omega) only[go_sem,simprocAttr,decide_eq_true_eq,decide_eq_false_iff_not,Bool.not_eq_true,Bool.not_eq_false,Int.not_lt,Int.not_le] at hb
      repeat' (first | refine wz1 ?_ | refine wz2 ?_ | refine wz3 ?_ | refine wz4 ?_ | refine wz5 ?_ | refine wz6 ?_ | simp -dsimp (maxSteps:=999999) (disch:=omega) only[go_sem,simprocAttr, *])
      refine wz7 (fun hb => ?_) (fun hb => ?_) <;> try simp -dsimp (maxSteps:=999999) (disch:=omega) only[go_sem,simprocAttr,decide_eq_true_eq,decide_eq_false_iff_not,Bool.not_eq_true,Bool.not_eq_false,Int.not_lt,Int.not_le] at hb
      repeat' (first | refine wz1 ?_ | refine wz2 ?_ | refine wz3 ?_ | refine wz4 ?_ | refine wz5 ?_ | refine wz6 ?_ | simp -dsimp (maxSteps:=999999) (disch:=omega) only[go_sem,simprocAttr, *])
      refine wz7 (fun hb => ?_) (fun hb => ?_) <;> try simp -dsimp (maxSteps:=999999) (disch:=omega) only[go_sem,simprocAttr,decide_eq_true_eq,decide_eq_false_iff_not,Bool.not_eq_true,Bool.not_eq_false,Int.not_lt,Int.not_le] at hb
      repeat' (first | refine wz1 ?_ | refine wz2 ?_ | refine wz3 ?_ | refine wz4 ?_ | refine wz5 ?_ | refine wz6 ?_ | simp -dsimp (maxSteps:=999999) (disch:=omega) only[go_sem,simprocAttr, *])
      refine wz7 (fun hb => ?_) (fun hb => ?_) <;> try simp -dsimp (maxSteps:=999999) (disch:=omega) only[go_sem,simprocAttr,decide_eq_true_eq,decide_eq_false_iff_not,Bool.not_eq_true,Bool.not_eq_false,Int.not_lt,Int.not_le] at hb
      repeat' (first | refine wz1 ?_ | refine wz2 ?_ | refine wz3 ?_ | refine wz4 ?_ | refine wz5 ?_ | refine wz6 ?_ | simp -dsimp (maxSteps:=999999) (disch:=omega) only[go_sem,simprocAttr, *])
      refine wz7 (fun hb => ?_) (fun hb => ?_) <;> try simp -dsimp (maxSteps:=999999) (disch:=omega) only[go_sem,simprocAttr,decide_eq_true_eq,decide_eq_false_iff_not,Bool.not_eq_true,Bool.not_eq_false,Int.not_lt,Int.not_le] at hb
      repeat' (first | refine wz1 ?_ | refine wz2 ?_ | refine wz3 ?_ | refine wz4 ?_ | refine wz5 ?_ | refine wz6 ?_ | simp -dsimp (maxSteps:=999999) (disch:=omega) only[go_sem,simprocAttr, *])
      try simp -dsimp (maxSteps:=999999) (disch:=omega) only[go_sem,simprocAttr, *,shape1, beqN_true, beqN_false, eqZ_false, or_false1]
    · repeat' (first | refine wz1 ?_ | refine wz2 ?_ | refine wz3 ?_ | refine wz4 ?_ | refine wz5 ?_ | refine wz6 ?_ | simp -dsimp (maxSteps:=999999) (disch:=omega) only[go_sem,simprocAttr, *])
      refine wz7 (fun hb => ?_) (fun hb => ?_) <;> try simp -dsimp (maxSteps:=999999) (disch:=omega) only[go_sem,simprocAttr,decide_eq_true_eq,decide_eq_false_iff_not,Bool.not_eq_true,Bool.not_eq_false,Int.not_lt,Int.not_le] at hb
      repeat' (first | refine wz1 ?_ | refine wz2 ?_ | refine wz3 ?_ | refine wz4 ?_ | refine wz5 ?_ | refine wz6 ?_ | simp -dsimp (maxSteps:=999999) (disch:=omega) only[go_sem,simprocAttr, *])
      refine wz7 (fun hb => ?_) (fun hb => ?_) <;> try simp -dsimp (maxSteps:=999999) (disch:=omega) only[go_sem,simprocAttr,decide_eq_true_eq,decide_eq_false_iff_not,Bool.not_eq_true,Bool.not_eq_false,Int.not_lt,Int.not_le] at hb
      repeat' (first | refine wz1 ?_ | refine wz2 ?_ | refine wz3 ?_ | refine wz4 ?_ | refine wz5 ?_ | refine wz6 ?_ | simp -dsimp (maxSteps:=999999) (disch:=omega) only[go_sem,simprocAttr, *])
      refine wz7 (fun hb => ?_) (fun hb => ?_) <;> try simp -dsimp (maxSteps:=999999) (disch:=omega) only[go_sem,simprocAttr,decide_eq_true_eq,decide_eq_false_iff_not,Bool.not_eq_true,Bool.not_eq_false,Int.not_lt,Int.not_le] at hb
      repeat' (first | refine wz1 ?_ | refine wz2 ?_ | refine wz3 ?_ | refine wz4 ?_ | refine wz5 ?_ | refine wz6 ?_ | simp -dsimp (maxSteps:=999999) (disch:=omega) only[go_sem,simprocAttr, *])
      refine wz7 (fun hb => ?_) (fun hb => ?_) <;> try simp -dsimp (maxSteps:=999999) (disch:=omega) only[go_sem,simprocAttr,decide_eq_true_eq,decide_eq_false_iff_not,Bool.not_eq_true,Bool.not_eq_false,Int.not_lt,Int.not_le] at hb
      repeat' (first | refine wz1 ?_ | refine wz2 ?_ | refine wz3 ?_ | refine wz4 ?_ | refine wz5 ?_ | refine wz6 ?_ | simp -dsimp (maxSteps:=999999) (disch:=omega) only[go_sem,simprocAttr, *])
      refine wz7 (fun hb => ?_) (fun hb => ?_) <;> try simp -dsimp (maxSteps:=999999) (disch:=omega) only[go_sem,simprocAttr,decide_eq_true_eq,decide_eq_false_iff_not,Bool.not_eq_true,Bool.not_eq_false,Int.not_lt,Int.not_le] at hb
      repeat' (first | refine wz1 ?_ | refine wz2 ?_ | refine wz3 ?_ | refine wz4 ?_ | refine wz5 ?_ | refine wz6 ?_ | simp -dsimp (maxSteps:=999999) (disch:=omega) only[go_sem,simprocAttr, *])
      refine wz7 (fun hb => ?_) (fun hb => ?_) <;> try simp -dsimp (maxSteps:=999999) (disch:=omega) only[go_sem,simprocAttr,decide_eq_true_eq,decide_eq_false_iff_not,Bool.not_eq_true,Bool.not_eq_false,Int.not_lt,Int.not_le] at hb
      repeat' (first | refine wz1 ?_ | refine wz2 ?_ | refine wz3 ?_ | refine wz4 ?_ | refine wz5 ?_ | refine wz6 ?_ | simp -dsimp (maxSteps:=999999) (disch:=omega) only[go_sem,simprocAttr, *])
      try simp -dsimp (maxSteps:=999999) (disch:=omega) only[go_sem,simprocAttr, *,shape1, beqN_true, beqN_false, eqZ_false, or_false1]
    · repeat' (first | refine wz1 ?_ | refine wz2 ?_ | refine wz3 ?_ | refine wz4 ?_ | refine wz5 ?_ | refine wz6 ?_ | simp -dsimp (maxSteps:=999999) (disch:=omega) only[go_sem,simprocAttr, *])
      refine wz7 (fun hb => ?_) (fun hb => ?_) <;> try simp -dsimp (maxSteps:=999999) (disch:=omega) only[go_sem,simprocAttr,decide_eq_true_eq,decide_eq_false_iff_not,Bool.not_eq_true,Bool.not_eq_false,Int.not_lt,Int.not_le] at hb
      repeat' (first | refine wz1 ?_ | refine wz2 ?_ | refine wz3 ?_ | refine wz4 ?_ | refine wz5 ?_ | refine wz6 ?_ | simp -dsimp (maxSteps:=999999) (disch:=omega) only[go_sem,simprocAttr, *])
      refine wz7 (fun hb => ?_) (fun hb => ?_) <;> try simp -dsimp (maxSteps:=999999) (disch:=omega) only[go_sem,simprocAttr,decide_eq_true_eq,decide_eq_false_iff_not,Bool.not_eq_true,Bool.not_eq_false,Int.not_lt,Int.not_le] at hb
      repeat' (first | refine wz1 ?_ | refine wz2 ?_ | refine wz3 ?_ | refine wz4 ?_ | refine wz5 ?_ | refine wz6 ?_ | simp -dsimp (maxSteps:=999999) (disch:=omega) only[go_sem,simprocAttr, *])
      refine wz7 (fun hb => ?_) (fun hb => ?_) <;> try simp -dsimp (maxSteps:=999999) (disch:=omega) only[go_sem,simprocAttr,decide_eq_true_eq,decide_eq_false_iff_not,Bool.not_eq_true,Bool.not_eq_false,Int.not_lt,Int.not_le] at hb
      repeat' (first | refine wz1 ?_ | refine wz2 ?_ | refine wz3 ?_ | refine wz4 ?_ | refine wz5 ?_ | refine wz6 ?_ | simp -dsimp (maxSteps:=999999) (disch:=omega) only[go_sem,simprocAttr, *])
      refine wz7 (fun hb => ?_) (fun hb => ?_) <;> try simp -dsimp (maxSteps:=999999) (disch:=omega) only[go_sem,simprocAttr,decide_eq_true_eq,decide_eq_false_iff_not,Bool.not_eq_true,Bool.not_eq_false,Int.not_lt,Int.not_le] at hb
      repeat' (first | refine wz1 ?_ | refine wz2 ?_ | refine wz3 ?_ | refine wz4 ?_ | refine wz5 ?_ | refine wz6 ?_ | simp -dsimp (maxSteps:=999999) (disch:=omega) only[go_sem,simprocAttr, *])
      refine wz7 (fun hb => ?_) (fun hb => ?_) <;> try simp -dsimp (maxSteps:=999999) (disch:=omega) only[go_sem,simprocAttr,decide_eq_true_eq,decide_eq_false_iff_not,Bool.not_eq_true,Bool.not_eq_false,Int.not_lt,Int.not_le] at hb
      repeat' (first | refine wz1 ?_ | refine wz2 ?_ | refine wz3 ?_ | refine wz4 ?_ | refine wz5 ?_ | refine wz6 ?_ | simp -dsimp (maxSteps:=999999) (disch:=omega) only[go_sem,simprocAttr, *])
      refine wz7 (fun hb => ?_) (fun hb => ?_) <;> try simp -dsimp (maxSteps:=999999) (disch:=omega) only[go_sem,simprocAttr,decide_eq_true_eq,decide_eq_false_iff_not,Bool.not_eq_true,Bool.not_eq_false,Int.not_lt,Int.not_le] at hb
      repeat' (first | refine wz1 ?_ | refine wz2 ?_ | refine wz3 ?_ | refine wz4 ?_ | refine wz5 ?_ | refine wz6 ?_ | simp -dsimp (maxSteps:=999999) (disch:=omega) only[go_sem,simprocAttr, *])
      try simp -dsimp (maxSteps:=999999) (disch:=omega) only[go_sem,simprocAttr, *,shape1, beqN_true, beqN_false, eqZ_false, or_false1]
    · repeat' (first | refine wz1 ?_ | refine wz2 ?_ | refine wz3 ?_ | refine wz4 ?_ | refine wz5 ?_ | refine wz6 ?_ | simp -dsimp (maxSteps:=999999) (disch:=omega) only[go_sem,simprocAttr, *])
      refine wz7 (fun hb => ?_) (fun hb => ?_) <;> try simp -dsimp (maxSteps:=999999) (disch:=omega) only[go_sem,simprocAttr,decide_eq_true_eq,decide_eq_false_iff_not,Bool.not_eq_true,Bool.not_eq_false,Int.not_lt,Int.not_le] at hb
      repeat' (first | refine wz1 ?_ | refine wz2 ?_ | refine wz3 ?_ | refine wz4 ?_ | refine wz5 ?_ | refine wz6 ?_ | simp -dsimp (maxSteps:=999999) (disch:=omega) only[go_sem,simprocAttr, *])
      refine wz7 (fun hb => ?_) (fun hb => ?_) <;> try simp -dsimp (maxSteps:=999999) (disch:=omega) only[go_sem,simprocAttr,decide_eq_true_eq,decide_eq_false_iff_not,Bool.not_eq_true,Bool.not_eq_false,Int.not_lt,Int.not_le] at hb
      repeat' (first | refine wz1 ?_ | refine wz2 ?_ | refine wz3 ?_ | refine wz4 ?_ | refine wz5 ?_ | refine wz6 ?_ | simp -dsimp (maxSteps:=999999) (disch:=omega) only[go_sem,simprocAttr, *])
      refine wz7 (fun hb => ?_) (fun hb => ?_) <;> try simp -dsimp (maxSteps:=999999) (disch:=omega) only[go_sem,simprocAttr,decide_eq_true_eq,decide_eq_false_iff_not,Bool.not_eq_true,Bool.not_eq_false,Int.not_lt,Int.not_le] at hb
      repeat' (first | refine wz1 ?_ | refine wz2 ?_ | refine wz3 ?_ | refine wz4 ?_ | refine wz5 ?_ | refine wz6 ?_ | simp -dsimp (maxSteps:=999999) (disch:=omega) only[go_sem,simprocAttr, *])
      refine wz7 (fun hb => ?_) (fun hb => ?_) <;> try simp -dsimp (maxSteps:=999999) (disch:=omega) only[go_sem,simprocAttr,decide_eq_true_eq,decide_eq_false_iff_not,Bool.not_eq_true,Bool.not_eq_false,Int.not_lt,Int.not_le] at hb
      repeat' (first | refine wz1 ?_ | refine wz2 ?_ | refine wz3 ?_ | refine wz4 ?_ | refine wz5 ?_ | refine wz6 ?_ | simp -dsimp (maxSteps:=999999) (disch:=omega) only[go_sem,simprocAttr, *])
      refine wz7 (fun hb => ?_) (fun hb => ?_) <;> try simp -dsimp (maxSteps:=999999) (disch:=omega) only[go_sem,simprocAttr,decide_eq_true_eq,decide_eq_false_iff_not,Bool.not_eq_true,Bool.not_eq_false,Int.not_lt,Int.not_le] at hb
      repeat' (first | refine wz1 ?_ | refine wz2 ?_ | refine wz3 ?_ | refine wz4 ?_ | refine wz5 ?_ | refine wz6 ?_ | simp -dsimp (maxSteps:=999999) (disch:=omega) only[go_sem,simprocAttr, *])
      refine wz7 (fun hb => ?_) (fun hb => ?_) <;> try simp -dsimp (maxSteps:=999999) (disch:=omega) only[go_sem,simprocAttr,decide_eq_true_eq,decide_eq_false_iff_not,Bool.not_eq_true,Bool.not_eq_false,Int.not_lt,Int.not_le] at hb
      repeat' (first | refine wz1 ?_ | refine wz2 ?_ | refine wz3 ?_ | refine wz4 ?_ | refine wz5 ?_ | refine wz6 ?_ | simp -dsimp (maxSteps:=999999) (disch:=omega) only[go_sem,simprocAttr, *])
      try simp -dsimp (maxSteps:=999999) (disch:=omega) only[go_sem,simprocAttr, *,shape1, beqN_true, beqN_false, eqZ_false, or_false1]
  repeat' (first | refine wz1 ?_ | refine wz2 ?_ | refine wz3 ?_ | refine wz4 ?_ | refine wz5 ?_ | refine wz6 ?_ | simp -dsimp (maxSteps:=999999) (disch:=omega) only[go_sem,simprocAttr, *])
  refine wz7 (fun hb => ?_) (fun hb => ?_) <;> try simp -dsimp (maxSteps:=999999) (disch:=omega) only[go_sem,simprocAttr,decide_eq_true_eq,decide_eq_false_iff_not,Bool.not_eq_true,Bool.not_eq_false,Int.not_lt,Int.not_le] at hb
  repeat' (first | refine wz1 ?_ | refine wz2 ?_ | refine wz3 ?_ | refine wz4 ?_ | refine wz5 ?_ | refine wz6 ?_ | simp -dsimp (maxSteps:=999999) (disch:=omega) only[go_sem,simprocAttr, *])
  refine wz7 (fun hb => ?_) (fun hb => ?_) <;> try simp -dsimp (maxSteps:=999999) (disch:=omega) only[go_sem,simprocAttr,decide_eq_true_eq,decide_eq_false_iff_not,Bool.not_eq_true,Bool.not_eq_false,Int.not_lt,Int.not_le] at hb
  repeat' (first | refine wz1 ?_ | refine wz2 ?_ | refine wz3 ?_ | refine wz4 ?_ | refine wz5 ?_ | refine wz6 ?_ | simp -dsimp (maxSteps:=999999) (disch:=omega) only[go_sem,simprocAttr, *])
  refine wz7 (fun hb => ?_) (fun hb => ?_) <;> try simp -dsimp (maxSteps:=999999) (disch:=omega) only[go_sem,simprocAttr,decide_eq_true_eq,decide_eq_false_iff_not,Bool.not_eq_true,Bool.not_eq_false,Int.not_lt,Int.not_le] at hb
  repeat' (first | refine wz1 ?_ | refine wz2 ?_ | refine wz3 ?_ | refine wz4 ?_ | refine wz5 ?_ | refine wz6 ?_ | simp -dsimp (maxSteps:=999999) (disch:=omega) only[go_sem,simprocAttr, *])
  refine wz7 (fun hb => ?_) (fun hb => ?_) <;> try simp -dsimp (maxSteps:=999999) (disch:=omega) only[go_sem,simprocAttr,decide_eq_true_eq,decide_eq_false_iff_not,Bool.not_eq_true,Bool.not_eq_false,Int.not_lt,Int.not_le] at hb
  repeat' (first | refine wz1 ?_ | refine wz2 ?_ | refine wz3 ?_ | refine wz4 ?_ | refine wz5 ?_ | refine wz6 ?_ | simp -dsimp (maxSteps:=999999) (disch:=omega) only[go_sem,simprocAttr, *])
  refine wz7 (fun hb => ?_) (fun hb => ?_) <;> try simp -dsimp (maxSteps:=999999) (disch:=omega) only[go_sem,simprocAttr,decide_eq_true_eq,decide_eq_false_iff_not,Bool.not_eq_true,Bool.not_eq_false,Int.not_lt,Int.not_le] at hb
  repeat' (first | refine wz1 ?_ | refine wz2 ?_ | refine wz3 ?_ | refine wz4 ?_ | refine wz5 ?_ | refine wz6 ?_ | simp -dsimp (maxSteps:=999999) (disch:=omega) only[go_sem,simprocAttr, *])
  refine wz7 (fun hb => ?_) (fun hb => ?_) <;> try simp -dsimp (maxSteps:=999999) (disch:=omega) only[go_sem,simprocAttr,decide_eq_true_eq,decide_eq_false_iff_not,Bool.not_eq_true,Bool.not_eq_false,Int.not_lt,Int.not_le] at hb
  repeat' (first | refine wz1 ?_ | refine wz2 ?_ | refine wz3 ?_ | refine wz4 ?_ | refine wz5 ?_ | refine wz6 ?_ | simp -dsimp (maxSteps:=999999) (disch:=omega) only[go_sem,simprocAttr, *])
  try simp -dsimp (maxSteps:=999999) (disch:=omega) only[go_sem,simprocAttr, *,shape1, beqN_true, beqN_false, eqZ_false, or_false1]

/-! ### count -/
mutual
def cntR : Rx → Nat → Int → Bool × Int
  | .mk k s l, d, left => if left - 1 < 0 ∨ d = 0 ∨ shape1 k s l.length = false then (false, left - 1) else cntL l (d - 1) (left - 1)
def cntL : List Rx → Nat → Int → Bool × Int
  | [], _, left => (true, left)
  | r :: l, d, left => if (cntR r d left).1 then cntL l d (cntR r d left).2 else (false, (cntR r d left).2)
end
end Go.Proofs.W
end
/- Expressions: the program's count of nodes. -/
section
set_option maxHeartbeats 4000000
set_option linter.unusedVariables false
set_option linter.unusedSimpArgs false
namespace Go.Proofs.W
open Go Vm Go.Proofs.Zs07

/-- a cell that is written; what lay elsewhere lies there still -/
structure PtrTo (H H' : Heap) (p : Nat) (v : D) : Prop where
  len : H.length ≤ H'.length
  at_ : hget H' p = .arr [v]
  low : ∀ k, k < H.length → k ≠ p → hget H' k = hget H k
theorem lt_of_hget {H : Heap} {p : Nat} {xs : List D} (h : hget H p = .arr xs) : p < H.length := hget_lt h (by simp)
theorem PtrTo.trans {H H1 H2 : Heap} {p : Nat} {v w : D} (h : PtrTo H H1 p v) (g : PtrTo H1 H2 p w) : PtrTo H H2 p w :=
  ⟨Nat.le_trans h.len g.len, g.at_, fun k hk hne => by rw [g.low k (Nat.lt_of_lt_of_le hk h.len) hne, h.low k hk hne]⟩
theorem wpB_heap {N : Nat} {c : Code} {e : Env} {H : Heap} {Q : Ex → Env → Heap → Prop} (I : Heap → Prop) (h0 : I H) (h : ∀ H, I H → WpB Tryd.prog A N c e H Q) : WpB Tryd.prog A N c e H Q := h H h0
theorem hget_new {H : Heap} {ob : Ob} {L : List Ob} : hget (H ++ ob :: L) H.length = ob := by
  rw [hget_app0]; rfl
mutual
theorem cnt_lo : ∀ (r : Rx) (d : Nat) (left : Int), 0 ≤ left → (cntR r d left).2 ≤ left ∧ ((cntR r d left).1 = true → 0 ≤ (cntR r d left).2)
  | .mk k s l, d, left, h => by
    simp only [cntR]
    split
    · exact ⟨by simp only; omega, fun h => by cases h⟩
    · rename_i hc
      have := cntL_lo l (d - 1) (left - 1) (by omega)
      exact ⟨by omega, this.2⟩
theorem cntL_lo : ∀ (l : List Rx) (d : Nat) (left : Int), 0 ≤ left → (cntL l d left).2 ≤ left ∧ ((cntL l d left).1 = true → 0 ≤ (cntL l d left).2)
  | [], d, left, h => by simp [cntL, h]
  | r :: l, d, left, h => by
    simp only [cntL]
    have h1 := cnt_lo r d left h
    split
    · rename_i hc
      have h2 := cntL_lo l d _ (h1.2 hc)
      exact ⟨by omega, h2.2⟩
    · rename_i hc
      exact ⟨h1.1, fun h => by cases h⟩
end
theorem count_ok : ∀ (d : Nat) (hd : d ≤ 1000) (r : Rx) (hr : okR r) (left : Int) (h0 : 0 ≤ left) (h1 : left ≤ 1000) (H : Heap) (p : Nat) (hp : hget H p = .arr [.int .i64 left]),
    EvF Tryd.prog A 51 [rxD r, .int .i64 d, .ptr p 0 0] H (fun x H' => x = .bool (cntR r d left).1 ∧ PtrTo H H' p (.int .i64 (cntR r d left).2)) (fun _ _ => False) := by
  intro d
  induction d with
  | zero =>
    intro hd r hr left h0 h1 H p hp
    have hlt := lt_of_hget hp
    have hsh := shape_ok r hr
    have hst := strip1 (strip_rx r)
    obtain ⟨k, s, l⟩ := r
    have hcn : cntR (.mk k s l) 0 left = (false, left - 1) := by simp [cntR]
    rw [hcn]
    have c1 := rx_cells (.mk k s l)
    have c2 := rx_aggQ (.mk k s l)
    have c3 := rx_noTup (.mk k s l)
    generalize rxD (.mk k s l) = d at *
    refine evF_inB (n := 41) (rs := [.tmp 6]) Tryd.func51 rfl rfl rfl rfl rfl rfl ?_
    (refine wz1 ?_; refine wz2 ?_; simp -dsimp (maxSteps:=999999) (disch:=omega) only[go_sem,simprocAttr, *])
    (refine wz1 ?_; refine wz2 ?_; simp -dsimp (maxSteps:=999999) (disch:=omega) only[go_sem,simprocAttr, *,hget_app_lt])
    refine wpB_heap (fun H1 => hget H1 p = .arr [.int .i64 (left - 1)] ∧ PtrTo H H1 p (.int .i64 (left - 1))) ?_ ?_
    · refine ⟨hget_set_eq (by simp; omega), ⟨by simp, hget_set_eq (by simp; omega), fun k hk hne => ?_⟩⟩
      rw [hget_set_ne (by omega), hget_app_lt hk]
    · rintro H1 ⟨hp1, hPt⟩
      by_cases hl : left - 1 < 0
      · repeat' (first | refine wz1 ?_ | refine wz2 ?_ | refine wz3 ?_ | refine wz4 ?_ | refine wz5 ?_ | refine wz6 ?_ | simp -dsimp (maxSteps:=999999) (disch:=omega) only[go_sem,simprocAttr, *])
        refine wz7 (fun hb => ?_) (fun hb => ?_) <;> try simp -dsimp (maxSteps:=999999) (disch:=omega) only[go_sem,simprocAttr,decide_eq_true_eq,decide_eq_false_iff_not,Bool.not_eq_true,Bool.not_eq_false,Int.not_lt,Int.not_le] at hb
        repeat' (first | refine wz1 ?_ | refine wz2 ?_ | refine wz3 ?_ | refine wz4 ?_ | refine wz5 ?_ | refine wz6 ?_ | simp -dsimp (maxSteps:=999999) (disch:=omega) only[go_sem,simprocAttr, *])
      · repeat' (first | refine wz1 ?_ | refine wz2 ?_ | refine wz3 ?_ | refine wz4 ?_ | refine wz5 ?_ | refine wz6 ?_ | simp -dsimp (maxSteps:=999999) (disch:=omega) only[go_sem,simprocAttr, *])
        refine wz7 (fun hb => ?_) (fun hb => ?_) <;> try simp -dsimp (maxSteps:=999999) (disch:=omega) only[go_sem,simprocAttr,decide_eq_true_eq,decide_eq_false_iff_not,Bool.not_eq_true,Bool.not_eq_false,Int.not_lt,Int.not_le] at hb
        repeat' (first | refine wz1 ?_ | refine wz2 ?_ | refine wz3 ?_ | refine wz4 ?_ | refine wz5 ?_ | refine wz6 ?_ | simp -dsimp (maxSteps:=999999) (disch:=omega) only[go_sem,simprocAttr, *])
  | succ d ih =>
    intro hd r hr left h0 h1 H p hp
    have hlt := lt_of_hget hp
    have hsh := shape_ok r hr
    have hst := strip1 (strip_rx r)
    obtain ⟨k, s, l⟩ := r
    obtain ⟨_, _, _, _, hlen, hok⟩ := hr
    simp only [Rx.k, Rx.s, Rx.kids] at hsh
    refine evF_inB (n := 41) (rs := [.tmp 6]) Tryd.func51 rfl rfl rfl rfl rfl rfl ?_
    (refine wz1 ?_; refine wz2 ?_; simp -dsimp (maxSteps:=999999) (disch:=omega) only[go_sem,simprocAttr, *])
    (refine wz1 ?_; refine wz2 ?_; simp -dsimp (maxSteps:=999999) (disch:=omega) only[go_sem,simprocAttr, *,hget_app_lt])
    refine wpB_heap (fun H1 => hget H1 p = .arr [.int .i64 (left - 1)] ∧ PtrTo H H1 p (.int .i64 (left - 1)) ∧ hget H1 H.length = .arr [rxD (.mk k s l)] ∧ H.length < H1.length) ?_ ?_
    · refine ⟨hget_set_eq (by simp; omega), ⟨by simp, hget_set_eq (by simp; omega), fun k hk hne => ?_⟩, ?_, by simp⟩
      · rw [hget_set_ne (by omega), hget_app_lt hk]
      · rw [hget_set_ne (by omega), hget_new]; rfl
    · rintro H1 ⟨hp1, hPt, hq, hql⟩
      by_cases hl : left - 1 < 0
      · have hcn : cntR (.mk k s l) (d + 1) left = (false, left - 1) := by simp only [cntR]; rw [if_pos (.inl hl)]
        rw [hcn]
        repeat' (first | refine wz1 ?_ | refine wz2 ?_ | refine wz3 ?_ | refine wz4 ?_ | refine wz5 ?_ | refine wz6 ?_ | simp -dsimp (maxSteps:=999999) (disch:=omega) only[go_sem,simprocAttr, *])
        refine wz7 (fun hb => ?_) (fun hb => ?_) <;> try simp -dsimp (maxSteps:=999999) (disch:=omega) only[go_sem,simprocAttr,decide_eq_true_eq,decide_eq_false_iff_not,Bool.not_eq_true,Bool.not_eq_false,Int.not_lt,Int.not_le] at hb
        repeat' (first | refine wz1 ?_ | refine wz2 ?_ | refine wz3 ?_ | refine wz4 ?_ | refine wz5 ?_ | refine wz6 ?_ | simp -dsimp (maxSteps:=999999) (disch:=omega) only[go_sem,simprocAttr, *])
      · cases hs : shape1 k s l.length with
        | false =>
          have hcn : cntR (.mk k s l) (d + 1) left = (false, left - 1) := by simp only [cntR]; rw [if_pos (.inr (.inr hs))]
          rw [hcn]
          rw [hs] at hsh
          repeat' (first | refine wz1 ?_ | refine wz2 ?_ | refine wz3 ?_ | refine wz4 ?_ | refine wz5 ?_ | refine wz6 ?_ | simp -dsimp (maxSteps:=999999) (disch:=omega) only[go_sem,simprocAttr, *])
          refine evB_plain bo64 rfl rfl hst hsh ?_
          simp -dsimp (maxSteps:=999999) (disch:=omega) only[go_sem,simprocAttr, *]
          refine wz7 (fun hb => ?_) (fun hb => ?_) <;> try simp -dsimp (maxSteps:=999999) (disch:=omega) only[go_sem,simprocAttr,decide_eq_true_eq,decide_eq_false_iff_not,Bool.not_eq_true,Bool.not_eq_false,Int.not_lt,Int.not_le] at hb
          repeat' (first | refine wz1 ?_ | refine wz2 ?_ | refine wz3 ?_ | refine wz4 ?_ | refine wz5 ?_ | refine wz6 ?_ | simp -dsimp (maxSteps:=999999) (disch:=omega) only[go_sem,simprocAttr, *])
        | true =>
          have hcn : cntR (.mk k s l) (d + 1) left = cntL l d (left - 1) := by simp only [cntR]; rw [if_neg (by simp [hs]; omega)]; rfl
          rw [hcn]
          rw [hs] at hsh
          clear hcn
          repeat' (first | refine wz1 ?_ | refine wz2 ?_ | refine wz3 ?_ | refine wz4 ?_ | refine wz5 ?_ | refine wz6 ?_ | simp -dsimp (maxSteps:=999999) (disch:=omega) only[go_sem,simprocAttr, *])
          refine evB_plain bo64 rfl rfl hst hsh ?_
          simp -dsimp (maxSteps:=999999) (disch:=omega) only[go_sem,simprocAttr, *]
          refine wz7 (fun hb => ?_) (fun hb => ?_) <;> try simp -dsimp (maxSteps:=999999) (disch:=omega) only[go_sem,simprocAttr,decide_eq_true_eq,decide_eq_false_iff_not,Bool.not_eq_true,Bool.not_eq_false,Int.not_lt,Int.not_le] at hb
          repeat' (first | refine wz1 ?_ | refine wz2 ?_ | refine wz3 ?_ | refine wz4 ?_ | refine wz5 ?_ | refine wz6 ?_ | simp -dsimp (maxSteps:=999999) (disch:=omega) only[go_sem,simprocAttr, *])
          refine wpB_loop (fun e H2 => ∃ j : Nat, j ≤ l.length ∧ e 1 = .int .i64 ((d : Int) + 1) ∧ e 2 = .ptr p 0 0 ∧ e 28 = .sl false (rxDs l) ∧ e 29 = .int .i64 l.length ∧ e 30 = .int .i64 j ∧ ∃ left' : Int, 0 ≤ left' ∧ left' ≤ 1000 ∧ PtrTo H H2 p (.int .i64 left') ∧ cntL l d (left - 1) = cntL (l.drop j) d left') (fun e H => l.length - natOf (e 30)) ?_ ?_
          · exact ⟨0, Nat.zero_le _, gs, gs, gs, gs, rfl, left - 1, by omega, by omega, hPt, by simp⟩
          · clear hq hql hPt hp1 hb hsh H1 
            rintro e H2 ⟨j, hj, e1, e2, e28, e29, e30, left', hl0, hl1, hPt, ha⟩ R hR
            repeat' (first | refine wz1 ?_ | refine wz2 ?_ | refine wz3 ?_ | refine wz4 ?_ | refine wz5 ?_ | refine wz6 ?_ | simp -dsimp (maxSteps:=999999) (disch:=omega) only[go_sem,simprocAttr, *])
            refine wz7 (fun hb2 => ?_) (fun hb2 => ?_) <;> try simp -dsimp (maxSteps:=999999) (disch:=omega) only[go_sem,simprocAttr,decide_eq_true_eq,decide_eq_false_iff_not,Bool.not_eq_true,Bool.not_eq_false,Int.not_lt,Int.not_le] at hb2
            · rw [List.drop_eq_getElem_cons hb2] at ha
              simp only [cntL] at ha
              have hst2 := strip1 (strip_rx l[j])
              have hkid := okL_get hok _ (List.getElem_mem hb2)
              have c1 := rx_cells l[j]
              have c2 := rx_aggQ l[j]
              have c3 := rx_noTup l[j]
              have hlt2 := lt_of_hget hPt.at_
              have hlow : ∀ (L : List Ob), hget (H2 ++ L) p = .arr [.int .i64 left'] := fun L => by rw [hget_app_lt hlt2, hPt.at_]
              have ihj := ih (by omega) l[j] hkid left' hl0 hl1
              have hcl := cnt_lo l[j] d left' hl0
              obtain ⟨b, lf, hc⟩ : ∃ b lf, cntR l[j] d left' = (b, lf) := ⟨_, _, rfl⟩
              rw [hc] at ha hcl
              simp only [hc] at ihj
              repeat' (first | refine wz1 ?_ | refine wz2 ?_ | refine wz3 ?_ | refine wz4 ?_ | refine wz5 ?_ | refine wz6 ?_ | simp -dsimp (maxSteps:=999999) (disch:=omega) only[go_sem,simprocAttr, *])
              refine evB_state bo51 rfl rfl (ihj _ p (hlow _)) ?_ (fun _ _ h => h.elim)
              rintro _ H3 ⟨rfl, hP3⟩
              have hP : PtrTo H H3 p (.int .i64 lf) := ⟨by have := hPt.len; have := hP3.len; simp at this; omega, hP3.at_, fun k hk hne => by
                have h1 := hPt.len
                rw [hP3.low k (by simp; omega) hne, hget_app_lt (by omega), hPt.low k hk hne]⟩
              cases b with
              | false =>
                simp only [Bool.false_eq_true, if_false] at ha
                rw [ha]
                simp -dsimp (maxSteps:=999999) (disch:=omega) only[go_sem,simprocAttr, *]
                refine wz7 (fun hb3 => ?_) (fun hb3 => ?_) <;> try simp -dsimp (maxSteps:=999999) (disch:=omega) only[go_sem,simprocAttr,decide_eq_true_eq,decide_eq_false_iff_not,Bool.not_eq_true,Bool.not_eq_false,Int.not_lt,Int.not_le] at hb3
                repeat' (first | refine wz1 ?_ | refine wz2 ?_ | refine wz3 ?_ | refine wz4 ?_ | refine wz5 ?_ | refine wz6 ?_ | simp -dsimp (maxSteps:=999999) (disch:=omega) only[go_sem,simprocAttr, *])
              | true =>
                simp only [if_true] at ha hcl
                simp -dsimp (maxSteps:=999999) (disch:=omega) only[go_sem,simprocAttr, *]
                refine wz7 (fun hb3 => ?_) (fun hb3 => ?_) <;> try simp -dsimp (maxSteps:=999999) (disch:=omega) only[go_sem,simprocAttr,decide_eq_true_eq,decide_eq_false_iff_not,Bool.not_eq_true,Bool.not_eq_false,Int.not_lt,Int.not_le] at hb3
                repeat' (first | refine wz1 ?_ | refine wz2 ?_ | refine wz3 ?_ | refine wz4 ?_ | refine wz5 ?_ | refine wz6 ?_ | simp -dsimp (maxSteps:=999999) (disch:=omega) only[go_sem,simprocAttr, *])
                refine hR _ _ ⟨j + 1, by omega, gs, gs, gs, gs, gs, lf, hcl.2 trivial, by omega, hP, ha⟩ ?_
                simp -dsimp (maxSteps:=999999) (disch:=omega) only[go_sem,simprocAttr, *,natOf_int]
            · rw [List.drop_eq_nil_of_le (by omega)] at ha
              rw [ha]
              repeat' (first | refine wz1 ?_ | refine wz2 ?_ | refine wz3 ?_ | refine wz4 ?_ | refine wz5 ?_ | refine wz6 ?_ | simp -dsimp (maxSteps:=999999) (disch:=omega) only[go_sem,simprocAttr, *])
              exact ⟨rfl, hPt⟩
end Go.Proofs.W
end
/- What is shown of the interpreter's run of a function that writes nothing holds of the function's calls. -/
section
set_option linter.unusedVariables false
namespace Vm
open Go
theorem calls_of_ev [Base] {P : Program} {A : Ann} {f : FuncId} {args : List D} {H : Heap} {d : D} (hmo : P.follows .mixedOrders = true) (hA : PrimOk P A) (hb : bodied P f = true) (h : EvF P A f args H (fun d' H' => d' = d ∧ H' = H) (fun _ _ => False))
    {ρ : Rho} {im : Im} {w : World} {vs : List Value} (hR : Rel ρ im H w) (hvs : RepA ρ H.length im vs args) : Calls P f ⟨vs⟩ w (OutR ρ im H w (.ok d H)) := by
  obtain ⟨k, res, h1, h2⟩ := h
  cases res with
  | pan d' H' => exact h2.elim
  | ok d' H' =>
    obtain ⟨rfl, rfl⟩ := h2
    exact (runF_ok hmo hA k f args _ _ h1 ρ im w vs hR hvs).calls hb
/-- what is shown of a function's run with memory of its own holds of its calls with plain arguments -/
theorem calls_of_pure [Base] {P : Program} {A : Ann} {f : FuncId} {args : List D} {H : Heap} {d : D} (hmo : P.follows .mixedOrders = true) (hA : PrimOk P A) (hb : bodied P f = true) (h : PureF P A f args d) (hst : stripL args = some args)
    {ρ : Rho} {im : Im} {w : World} {vs : List Value} (hR : Rel ρ im H w) (hvs : RepA ρ H.length im vs args) : Calls P f ⟨vs⟩ w (OutR ρ im H w (.ok d H)) := by
  obtain ⟨k, res, h1, h2⟩ := h
  cases res with
  | pan d' H' => exact h2.elim
  | ok d' H' =>
    have := OutR.of_pure (runF_ok hmo hA k) hb hR (Mv.refl hR) hvs hst h1 h2
    rwa [ite_self] at this
mutual
/-- the same plain data? -/
def eqPl : D → D → Bool
  | .bool a, .bool b => a == b
  | .int k a, .int k' b => decide (k = k') && a == b
  | .str a, .str b => a == b
  | .nilp, .nilp | .nilm, .nilm | .niln, .niln | .nili, .nili => true
  | .sl f a, .sl g b => f == g && eqPlL a b
  | .agg a, .agg b => eqPlL a b
  | .tup a, .tup b => eqPlL a b
  | _, _ => false
def eqPlL : List D → List D → Bool
  | [], [] => true
  | x :: r, y :: s => eqPl x y && eqPlL r s
  | _, _ => false
end
mutual
theorem eqPl_eq : ∀ {a b : D}, eqPl a b = true → a = b
  | .bool a, b, h => by cases b <;> simp_all [eqPl]
  | .int k a, b, h => by cases b <;> simp_all [eqPl]
  | .str a, b, h => by cases b <;> simp_all [eqPl]
  | .nilp, b, h => by cases b <;> simp_all [eqPl]
  | .nilm, b, h => by cases b <;> simp_all [eqPl]
  | .niln, b, h => by cases b <;> simp_all [eqPl]
  | .nili, b, h => by cases b <;> simp_all [eqPl]
  | .sl f a, b, h => by
    cases b <;> simp only [eqPl] at h <;> first | (cases h; done) | skip
    simp only [Bool.and_eq_true, beq_iff_eq] at h
    rw [h.1, eqPlL_eq h.2]
  | .agg a, b, h => by
    cases b <;> simp only [eqPl] at h <;> first | (cases h; done) | skip
    rw [eqPlL_eq h]
  | .tup a, b, h => by
    cases b <;> simp only [eqPl] at h <;> first | (cases h; done) | skip
    rw [eqPlL_eq h]
  | .ptr .., b, h | .ept .., b, h | .vec .., b, h | .map _, b, h | .fn .., b, h | .bfn .., b, h | .iface .., b, h | .yld _, b, h => by simp [eqPl] at h
theorem eqPlL_eq : ∀ {a b : List D}, eqPlL a b = true → a = b
  | [], b, h => by cases b <;> simp_all [eqPlL]
  | x :: r, b, h => by
    cases b with
    | nil => simp [eqPlL] at h
    | cons y s =>
      simp only [eqPlL, Bool.and_eq_true] at h
      rw [eqPl_eq h.1, eqPlL_eq h.2]
end
/-- a closed run tells this -/
def tells (x : Option R) (d : D) : Bool :=
  match x with
  | some (.ok d' H) => match outPure H d' with
    | some e => eqPl e d
    | none => false
  | _ => false
theorem tells_pure {P : Program} {A : Ann} {f : FuncId} {k : Nat} {args : List D} {d : D} (h : tells (runF P A k f args []) d = true) : PureF P A f args d := by
  unfold tells at h
  split at h
  · rename_i d' H hr
    split at h
    · rename_i e ho
      refine ⟨k, _, hr, ?_⟩
      show outPure H d' = some d
      rw [ho, eqPl_eq h]
    · cases h
  · cases h
/-- told at once, for arguments that are known -/
def onlyP (al : List D) (d : D) : List D → Heap → Option R := fun args H => (pures H args).bind fun (bs, H') => if eqPlL bs al = true then some (.ok d (if flat d then H else H')) else none
theorem only_calls [Base] {P : Program} {A : Ann} {f : FuncId} {al args : List D} {H : Heap} {d : D} {r : R} (hmo : P.follows .mixedOrders = true) (hA : PrimOk P A) (hb : bodied P f = true) (hq : primQ A f = false) (hm : A.mode f = .pure) (hp : PureF P A f al d) (h : onlyP al d args H = some r)
    {ρ : Rho} {im : Im} {w : World} {vs : List Value} (hR : Rel ρ im H w) (hvs : RepA ρ H.length im vs args) : Calls P f ⟨vs⟩ w (OutR ρ im H w r) := by
  unfold onlyP at h
  obtain ⟨⟨bs, H'⟩, h1, h2⟩ := bind_some h
  simp only at h2
  split at h2
  · rename_i he
    cases h2
    have := eqPlL_eq he
    subst this
    obtain ⟨k, res, h3, h4⟩ := hp
    cases res with
    | pan d' H' => exact h4.elim
    | ok d' Hc =>
      have hc : callD P A (runF P A k) f args H = some (.ok d (if flat d then H else H')) := by
        simp only [callD, hb, Bool.true_eq_false, if_false, (primQ_none hq).1, (primQ_none hq).2, hm, h1, Option.bind_some, h3]
        rw [if_neg (by decide), h4]
        rfl
      rcases callD_ok hA (runF_ok hmo hA k) hR hvs hc with ⟨_, hcalls⟩ | ⟨_, _, _, _, _, hx, _⟩
      · exact hcalls
      · rw [callFunc_run hb] at hx
        cases hx
  · cases h2
end Vm
end
/- Lists of numbers. -/
section
set_option maxHeartbeats 4000000
set_option linter.unusedVariables false
set_option linter.unusedSimpArgs false
namespace Go.Proofs.W
open Go Vm Go.Proofs.Zs07

def isD (l : List Int) : D := .sl false (l.map (.int .i64))
theorem strip_ints (l : List Int) : stripL (l.map (.int .i64)) = some (l.map (.int .i64)) := by
  induction l with
  | nil => rfl
  | cons q r ih => simp [stripL, ih, strip]
theorem strip_is (l : List Int) : strip (isD l) = some (isD l) := by simp [isD, strip, strip_ints]
theorem take_succ' {α : Type} {l : List α} {j : Nat} (h : j < l.length) : l.take (j + 1) = l.take j ++ [l[j]] := by rw [List.take_add_one, List.getElem?_eq_getElem h]; rfl
theorem headInts (l : List Int) : headSize 1 (l.map (D.int .i64)) = true := by cases l <;> rfl
/-- all numbers from one on -/
def allN (p : Nat → Bool) : Nat → Nat → Bool
  | _, 0 => true
  | j, m + 1 => p j && allN p (j + 1) m
theorem allN_iff {p : Nat → Bool} : ∀ {m j : Nat}, allN p j m = true ↔ ∀ i, j ≤ i → i < j + m → p i = true
  | 0, j => by simp [allN]; intro i h1 h2; omega
  | m + 1, j => by
    simp only [allN, Bool.and_eq_true, allN_iff (m := m)]
    constructor
    · rintro ⟨h0, h⟩ i h1 h2
      by_cases e : i = j
      · subst e; exact h0
      · exact h i (by omega) (by omega)
    · intro h
      exact ⟨h j (Nat.le_refl _) (by omega), fun i h1 h2 => h i (by omega) (by omega)⟩
theorem strip3 {a b c : D} (h : strip a = some a) (k : strip b = some b) (j : strip c = some c) : stripL [a, b, c] = some [a, b, c] := by simp [stripL, h, k, j]
theorem ex_at {α : Type} {l : List α} {i : Nat} (d : α) (h : i < l.length) : ∃ x, l[i]? = some x ∧ l.getD i d = x := ⟨l[i], List.getElem?_eq_getElem h, by simp [List.getD, h]⟩
/-- kept out of simp's sight -/
def Hid (p : Prop) : Prop := p
theorem allL_drop {p : Int → Bool} {l : List Int} {j : Nat} (h : j < l.length) : (l.drop j).all p = (p l[j] && (l.drop (j + 1)).all p) := by
  rw [List.drop_eq_getElem_cons h]; rfl
end Go.Proofs.W
end
/- Lists of numbers, for every chapter that does not speak of rules: as the program has them. -/
section
set_option maxHeartbeats 4000000
set_option linter.unusedVariables false
set_option linter.unusedSimpArgs false
namespace Go.Proofs.W
open Go Vm Go.Proofs.Zs07

theorem app_int {m : Nat} {d : D} {H : Heap} {l : List Int} (h : VecAt m d H (l.map (.int .i64))) (x : Int) (hl : l.length ≤ 1000000) : ∃ d' H', appendD Tryd.prog 23 (H ++ [Ob.arr [.int .i64 x]]) d (.vec H.length 0 1) = some (d', H') ∧ VecAt m d' H' ((l ++ [x]).map (.int .i64)) ∧ Same m H H' := by
  have := VecAt.append el23 sz3 by3 zr3 rfl (by decide) h (q := .int .i64 x) rfl rfl (headInts l) (by simp; omega)
  simpa using this
theorem pures_vec {m : Nat} {a v : D} {H : Heap} {xs : List D} (h : VecAt m v H xs) (hs : stripL xs = some xs) (ha : strip a = some a) : ∃ H', pures H [a, v] = some ([a, .sl false xs], H') := by
  obtain ⟨H', hp⟩ := h.pur (k := 4) hs
  refine ⟨H', ?_⟩
  simp only [pures, deepest, purL, pur_strip ha, Option.bind_some, hp, Option.map_some]
end Go.Proofs.W
end
/- Sets of states as texts of two bytes each; the map from such texts to numbers. -/
section
set_option maxHeartbeats 4000000
set_option linter.unusedVariables false
set_option linter.unusedSimpArgs false
namespace Go.Proofs.W
open Go Vm Go.Proofs.Zs07

/-- a set of states as a text -/
def keyS : List Int → List UInt8
  | [] => []
  | s :: l => UInt8.ofNat (s.toNat / 256) :: UInt8.ofNat (s.toNat % 256) :: keyS l
def small (l : List Int) : Prop := ∀ s ∈ l, 0 ≤ s ∧ s < 65536
theorem byte_inj {a b : Nat} (ha : a < 256) (hb : b < 256) (h : UInt8.ofNat a = UInt8.ofNat b) : a = b := by
  have := congrArg UInt8.toNat h
  simpa [UInt8.toNat_ofNat', Nat.mod_eq_of_lt ha, Nat.mod_eq_of_lt hb] using this
theorem keyS_inj : ∀ {a b : List Int}, small a → small b → keyS a = keyS b → a = b
  | [], [], _, _, _ => rfl
  | [], _ :: _, _, _, h => by simp [keyS] at h
  | _ :: _, [], _, _, h => by simp [keyS] at h
  | x :: a, y :: b, ha, hb, h => by
    simp only [keyS, List.cons.injEq] at h
    obtain ⟨h1, h2, h3⟩ := h
    have hx := ha x (List.mem_cons_self ..)
    have hy := hb y (List.mem_cons_self ..)
    have e1 := byte_inj (by omega) (by omega) h1
    have e2 := byte_inj (by omega) (by omega) h2
    have e3 := keyS_inj (fun s hs => ha s (List.mem_cons_of_mem _ hs)) (fun s hs => hb s (List.mem_cons_of_mem _ hs)) h3
    have : x = y := by omega
    rw [this, e3]
/-- the map's entries, the first set's number being so much -/
def ents : Nat → List (List Int) → List (D × D)
  | _, [] => []
  | i, l :: ls => (.str (keyS l), .int .i64 i) :: ents (i + 1) ls
theorem ents_app : ∀ (ls : List (List Int)) (i : Nat) (l : List Int), ents i (ls ++ [l]) = ents i ls ++ [(.str (keyS l), .int .i64 (i + ls.length : Nat))]
  | [], i, l => by simp [ents]
  | q :: ls, i, l => by
    simp only [List.cons_append, ents, ents_app ls (i + 1) l, List.length_cons]
    rw [show i + 1 + ls.length = i + (ls.length + 1) by omega]
theorem eq_str (a b : List UInt8) : eqSs (D.str a).cells (D.str b).cells = some (decide (a = b)) := by
  simp [D.cells, eqSs, eqS]
  by_cases h : a = b
  · simp [h]
  · simp [h]
/-- where a set stands -/
def placeS (l : List Int) : Nat → List (List Int) → Option Nat
  | _, [] => none
  | i, q :: ls => if l = q then some i else placeS l (i + 1) ls
theorem place_ge {l : List Int} : ∀ {ls : List (List Int)} {i j : Nat}, placeS l i ls = some j → i ≤ j
  | [], _, _, h => by cases h
  | q :: ls, i, j, h => by
    simp only [placeS] at h
    split at h
    · cases h; exact Nat.le_refl _
    · exact Nat.le_trans (Nat.le_succ _) (place_ge h)
theorem find_ents {l : List Int} (hl : small l) : ∀ (ls : List (List Int)) (i m : Nat), (∀ q ∈ ls, small q) → findE (.str (keyS l)) (ents i ls) m = some ((placeS l i ls).map fun j => (m + (j - i), .int .i64 j))
  | [], i, m, _ => rfl
  | q :: ls, i, m, h => by
    have hq := h q (List.mem_cons_self ..)
    have ih := find_ents hl ls (i + 1) (m + 1) (fun x hx => h x (List.mem_cons_of_mem _ hx))
    simp only [ents, findE, aggQ, if_true, eq_str, Option.bind_some, placeS]
    by_cases e : l = q
    · subst e; simp
    · have ek : keyS l ≠ keyS q := fun hk => e (keyS_inj hl hq hk)
      simp only [ek, decide_false, Bool.false_eq_true, if_false, e, ih]
      congr 1
      cases hp : placeS l (i + 1) ls with
      | none => rfl
      | some j =>
        have : i + 1 ≤ j := place_ge hp
        simp only [Option.map_some]
        rw [show m + 1 + (j - (i + 1)) = m + (j - i) by omega]
theorem place_none {l : List Int} : ∀ {ls : List (List Int)} {i : Nat}, placeS l i ls = none ↔ l ∉ ls
  | [], i => by simp [placeS]
  | q :: ls, i => by
    simp only [placeS, List.mem_cons, not_or]
    by_cases e : l = q
    · simp [e]
    · simp [e, place_none (l := l) (ls := ls) (i := i + 1)]
theorem place_at {l : List Int} : ∀ {ls : List (List Int)} {i j : Nat}, placeS l i ls = some j → ls[j - i]? = some l
  | [], _, _, h => by cases h
  | q :: ls, i, j, h => by
    simp only [placeS] at h
    split at h
    · rename_i e; cases h; subst e; simp
    · have := place_ge h
      have ih := place_at h
      rw [show j - i = (j - (i + 1)) + 1 by omega]
      simpa using ih
/-- a set's number, it being put behind if it is new -/
def addS (ls : List (List Int)) (l : List Int) : Int × List (List Int) := if l = [] then (-1, ls) else match placeS l 0 ls with
  | some j => (j, ls)
  | none => (ls.length, ls ++ [l])
theorem addS_at {ls : List (List Int)} {l : List Int} (h : l ≠ []) : ∃ j : Nat, (addS ls l).1 = j ∧ (addS ls l).2[j]? = some l := by
  unfold addS
  rw [if_neg h]
  cases hp : placeS l 0 ls with
  | some j => exact ⟨j, rfl, by simpa using place_at hp⟩
  | none => exact ⟨ls.length, rfl, by simp⟩
theorem addS_old {ls : List (List Int)} {l q : List Int} {j : Nat} (h : ls[j]? = some q) : (addS ls l).2[j]? = some q := by
  have hj := (List.getElem?_eq_some_iff.1 h).1
  unfold addS
  split
  · exact h
  · split
    · exact h
    · simpa [List.getElem?_append_left hj] using h
end Go.Proofs.W
end
/- Machines with free steps: what they are as data; whether one may be. -/
section
set_option maxHeartbeats 4000000
set_option linter.unusedVariables false
set_option linter.unusedSimpArgs false
namespace Go.Proofs.W
open Go Vm Go.Proofs.Zs07

structure Nfa where
  free : List (List Int)
  set : List Int
  to : List Int
  rule : List Int
def u16D (l : List Int) : D := .sl false (l.map (.int .u16))
def issD (l : List (List Int)) : D := .sl false (l.map isD)
def nfaD (n : Nfa) : D := .agg [issD n.free, u16D n.set, isD n.to, isD n.rule]
theorem strip_u16s (l : List Int) : stripL (l.map (.int .u16)) = some (l.map (.int .u16)) := by
  induction l with
  | nil => rfl
  | cons q r ih => simp [stripL, ih, strip]
theorem strip_iss (l : List (List Int)) : stripL (l.map isD) = some (l.map isD) := by
  induction l with
  | nil => rfl
  | cons q r ih => simp [stripL, ih, strip_is]
theorem strip_issD (l : List (List Int)) : strip (issD l) = some (issD l) := by simp [issD, strip, strip_iss]
theorem strip_u16D (l : List Int) : strip (u16D l) = some (u16D l) := by simp [u16D, strip, strip_u16s]
theorem strip_nfa (n : Nfa) : strip (nfaD n) = some (nfaD n) := by simp [nfaD, strip, stripL, strip_issD, strip_u16D, strip_is]
/-- is it a state? -/
def isS (k : Nat) (s : Int) : Bool := decide (0 ≤ s) && decide (s < k)
theorem isS_iff {k : Nat} {s : Int} : isS k s = true ↔ 0 ≤ s ∧ s < k := by simp [isS]
def rowOk (n : Nfa) (i : Nat) : Bool :=
  !(decide (n.set.getD i 0 ≠ 0) && !isS n.set.length (n.to.getD i 0)) && decide (-1 ≤ n.rule.getD i 0) && decide (n.rule.getD i 0 < 16) && (n.free.getD i []).all (isS n.set.length)
def rightN (n : Nfa) : Bool := decide (1 ≤ n.set.length ∧ n.set.length ≤ 3300 ∧ n.free.length = n.set.length ∧ n.to.length = n.set.length ∧ n.rule.length = n.set.length) && allN (rowOk n) 0 n.set.length
theorem is_at {l : List Int} {i : Nat} : (l.map (D.int .i64))[i]? = (l[i]?).map (.int .i64) := by simp
theorem right1_ok (s : Int) (k r : Nat) (H : Heap) (hg : hget H r = .arr [.int .i64 k]) : EvF Tryd.prog A 53 [.int .i64 s, .ptr r 0 0] H (fun d H' => d = .bool (isS k s) ∧ H' = H) (fun _ _ => False) := by
  refine evF_inB (n := 11) (rs := [.tmp 3]) Tryd.func53 rfl rfl rfl rfl rfl rfl ?_
  by_cases h0 : 0 ≤ s
  · by_cases h1 : s < k
    · repeat' (first | refine wz1 ?_ | refine wz2 ?_ | refine wz3 ?_ | refine wz4 ?_ | refine wz5 ?_ | refine wz6 ?_ | simp -dsimp (maxSteps:=999999) (disch:=omega) only[go_sem,simprocAttr, *,isS])
    · repeat' (first | refine wz1 ?_ | refine wz2 ?_ | refine wz3 ?_ | refine wz4 ?_ | refine wz5 ?_ | refine wz6 ?_ | simp -dsimp (maxSteps:=999999) (disch:=omega) only[go_sem,simprocAttr, *,isS])
  · repeat' (first | refine wz1 ?_ | refine wz2 ?_ | refine wz3 ?_ | refine wz4 ?_ | refine wz5 ?_ | refine wz6 ?_ | simp -dsimp (maxSteps:=999999) (disch:=omega) only[go_sem,simprocAttr, *,isS])
theorem isRow {n : Nfa} {i : Nat} (h : i < n.free.length) : (n.free.map isD)[i]? = some (isD n.free[i]) := by simp [h]
theorem nright_ok (n : Nfa) (hs : n.set.length ≤ 1000000) (hf : ∀ l ∈ n.free, l.length ≤ 1000000) : PureF Tryd.prog A 38 [nfaD n] (.bool (rightN n)) := by
  refine evF_inB (n := 91) (rs := [.tmp 2]) Tryd.func38 rfl rfl rfl rfl rfl rfl ?_
  by_cases c1 : n.set.length = 0
  · have hz : rightN n = false := by simp [rightN, c1]
    rw [hz]
    repeat' (first | refine wz1 ?_ | refine wz2 ?_ | refine wz3 ?_ | refine wz4 ?_ | refine wz5 ?_ | refine wz6 ?_ | simp -dsimp (maxSteps:=999999) (disch:=omega) only[go_sem,simprocAttr, *,nfaD, u16D])
    refine wz7 (fun hb => ?_) (fun hb => ?_) <;> try simp -dsimp (maxSteps:=999999) (disch:=omega) only[go_sem,simprocAttr,decide_eq_true_eq,decide_eq_false_iff_not,Bool.not_eq_true,Bool.not_eq_false,Int.not_lt,Int.not_le] at hb
    repeat' (first | refine wz1 ?_ | refine wz2 ?_ | refine wz3 ?_ | refine wz4 ?_ | refine wz5 ?_ | refine wz6 ?_ | simp -dsimp (maxSteps:=999999) (disch:=omega) only[go_sem,simprocAttr, *])
    try rfl
  by_cases c2 : n.set.length ≤ 3300
  case neg =>
    have hz : rightN n = false := by simp [rightN, c2]
    rw [hz]
    repeat' (first | refine wz1 ?_ | refine wz2 ?_ | refine wz3 ?_ | refine wz4 ?_ | refine wz5 ?_ | refine wz6 ?_ | simp -dsimp (maxSteps:=999999) (disch:=omega) only[go_sem,simprocAttr, *,nfaD, u16D])
    refine wz7 (fun hb => ?_) (fun hb => ?_) <;> try simp -dsimp (maxSteps:=999999) (disch:=omega) only[go_sem,simprocAttr,decide_eq_true_eq,decide_eq_false_iff_not,Bool.not_eq_true,Bool.not_eq_false,Int.not_lt,Int.not_le] at hb
    repeat' (first | refine wz1 ?_ | refine wz2 ?_ | refine wz3 ?_ | refine wz4 ?_ | refine wz5 ?_ | refine wz6 ?_ | simp -dsimp (maxSteps:=999999) (disch:=omega) only[go_sem,simprocAttr, *])
    try rfl
  by_cases c3 : n.free.length = n.set.length
  case neg =>
    have hz : rightN n = false := by simp [rightN, c3]
    rw [hz]
    repeat' (first | refine wz1 ?_ | refine wz2 ?_ | refine wz3 ?_ | refine wz4 ?_ | refine wz5 ?_ | refine wz6 ?_ | simp -dsimp (maxSteps:=999999) (disch:=omega) only[go_sem,simprocAttr, *,nfaD, u16D, issD])
    refine wz7 (fun hb => ?_) (fun hb => ?_) <;> try simp -dsimp (maxSteps:=999999) (disch:=omega) only[go_sem,simprocAttr,decide_eq_true_eq,decide_eq_false_iff_not,Bool.not_eq_true,Bool.not_eq_false,Int.not_lt,Int.not_le] at hb
    repeat' (first | refine wz1 ?_ | refine wz2 ?_ | refine wz3 ?_ | refine wz4 ?_ | refine wz5 ?_ | refine wz6 ?_ | simp -dsimp (maxSteps:=999999) (disch:=omega) only[go_sem,simprocAttr, *])
    try rfl
  by_cases c4 : n.to.length = n.set.length
  case neg =>
    have hz : rightN n = false := by simp [rightN, c4]
    rw [hz]
    repeat' (first | refine wz1 ?_ | refine wz2 ?_ | refine wz3 ?_ | refine wz4 ?_ | refine wz5 ?_ | refine wz6 ?_ | simp -dsimp (maxSteps:=999999) (disch:=omega) only[go_sem,simprocAttr, *,nfaD, u16D, issD, isD])
    refine wz7 (fun hb => ?_) (fun hb => ?_) <;> try simp -dsimp (maxSteps:=999999) (disch:=omega) only[go_sem,simprocAttr,decide_eq_true_eq,decide_eq_false_iff_not,Bool.not_eq_true,Bool.not_eq_false,Int.not_lt,Int.not_le] at hb
    repeat' (first | refine wz1 ?_ | refine wz2 ?_ | refine wz3 ?_ | refine wz4 ?_ | refine wz5 ?_ | refine wz6 ?_ | simp -dsimp (maxSteps:=999999) (disch:=omega) only[go_sem,simprocAttr, *])
    try rfl
  by_cases c5 : n.rule.length = n.set.length
  case neg =>
    have hz : rightN n = false := by simp [rightN, c5]
    rw [hz]
    repeat' (first | refine wz1 ?_ | refine wz2 ?_ | refine wz3 ?_ | refine wz4 ?_ | refine wz5 ?_ | refine wz6 ?_ | simp -dsimp (maxSteps:=999999) (disch:=omega) only[go_sem,simprocAttr, *,nfaD, u16D, issD, isD])
    refine wz7 (fun hb => ?_) (fun hb => ?_) <;> try simp -dsimp (maxSteps:=999999) (disch:=omega) only[go_sem,simprocAttr,decide_eq_true_eq,decide_eq_false_iff_not,Bool.not_eq_true,Bool.not_eq_false,Int.not_lt,Int.not_le] at hb
    repeat' (first | refine wz1 ?_ | refine wz2 ?_ | refine wz3 ?_ | refine wz4 ?_ | refine wz5 ?_ | refine wz6 ?_ | simp -dsimp (maxSteps:=999999) (disch:=omega) only[go_sem,simprocAttr, *])
    try rfl
  have hz : rightN n = allN (rowOk n) 0 n.set.length := by simp [rightN, c2, c3, c4, c5]; omega
  rw [hz]
  generalize hG : allN (rowOk n) 0 n.set.length = G
  clear hz
  repeat' (first | refine wz1 ?_ | refine wz2 ?_ | refine wz3 ?_ | refine wz4 ?_ | refine wz5 ?_ | refine wz6 ?_ | simp -dsimp (maxSteps:=999999) (disch:=omega) only[go_sem,simprocAttr, *,nfaD, u16D, issD, isD])
  refine wz7 (fun hb => ?_) (fun hb => ?_) <;> try simp -dsimp (maxSteps:=999999) (disch:=omega) only[go_sem,simprocAttr,decide_eq_true_eq,decide_eq_false_iff_not,Bool.not_eq_true,Bool.not_eq_false,Int.not_lt,Int.not_le] at hb
  repeat' (first | refine wz1 ?_ | refine wz2 ?_ | refine wz3 ?_ | refine wz4 ?_ | refine wz5 ?_ | refine wz6 ?_ | simp -dsimp (maxSteps:=999999) (disch:=omega) only[go_sem,simprocAttr, *,nfaD, u16D, issD, isD])
  let H0 : Heap := [Ob.arr [nfaD n], Ob.arr [.int .i64 n.set.length]]
  refine wpB_loop (fun e H => ∃ j m : Nat, j + m = n.set.length ∧ H = H0 ∧ e 1 = .ptr 0 0 0 ∧ e 3 = .ptr 1 0 0 ∧ e 4 = .fn 53 [.ptr 1 0 0] ∧ e 39 = .int .i64 n.set.length ∧ e 40 = .int .i64 j ∧ G = allN (rowOk n) j m) (fun e H => n.set.length - natOf (e 40)) ?_ ?_
  · exact ⟨0, n.set.length, by omega, rfl, gs, gs, gs, gs, gs, hG.symm⟩
  clear hG
  rintro e H ⟨j, m, hj, rfl, e1, e3, e4, e39, e40, ha⟩ R hR
  simp only [H0]
  repeat' (first | refine wz1 ?_ | refine wz2 ?_ | refine wz3 ?_ | refine wz4 ?_ | refine wz5 ?_ | refine wz6 ?_ | simp -dsimp (maxSteps:=999999) (disch:=omega) only[go_sem,simprocAttr, *,nfaD, u16D, issD, isD])
  refine wz7 (fun hb => ?_) (fun hb => ?_) <;> try simp -dsimp (maxSteps:=999999) (disch:=omega) only[go_sem,simprocAttr,decide_eq_true_eq,decide_eq_false_iff_not,Bool.not_eq_true,Bool.not_eq_false,Int.not_lt,Int.not_le] at hb
  · obtain ⟨m, rfl⟩ : ∃ x, m = x + 1 := ⟨m - 1, by omega⟩
    obtain ⟨s, hs1, hs2⟩ := ex_at (l := n.set) (i := j) 0 (by omega)
    obtain ⟨t, ht1, ht2⟩ := ex_at (l := n.to) (i := j) 0 (by omega)
    obtain ⟨ru, hr1, hr2⟩ := ex_at (l := n.rule) (i := j) 0 (by omega)
    obtain ⟨fr, hf1, hf2⟩ := ex_at (l := n.free) (i := j) [] (by omega)
    have hrow : allN (rowOk n) j (m + 1) = ((!(decide (s ≠ 0) && !isS n.set.length t) && decide (-1 ≤ ru) && decide (ru < 16) && fr.all (isS n.set.length)) && allN (rowOk n) (j + 1) m) := by simp only [allN, rowOk, hs2, ht2, hr2, hf2]
    rw [hrow] at ha
    clear hrow hs2 ht2 hr2 hf2
    rcases (by by_cases hs0 : s = 0; exact .inl hs0; by_cases hi : isS n.set.length t = true; exact .inr (.inr ⟨hs0, hi⟩); exact .inr (.inl ⟨hs0, by simpa using hi⟩) : s = 0 ∨ (s ≠ 0 ∧ isS n.set.length t = false) ∨ (s ≠ 0 ∧ isS n.set.length t = true)) with hs0 | ⟨hs0, hi⟩ | ⟨hs0, hi⟩
    rotate_left
    · have : G = false := by rw [ha, hi]; simp [hs0]
      rw [this]
      clear ha this
      repeat' (first | refine wz1 ?_ | refine wz2 ?_ | refine wz3 ?_ | refine wz4 ?_ | refine wz5 ?_ | refine wz6 ?_ | simp -dsimp (maxSteps:=999999) (disch:=omega) only[go_sem,simprocAttr, *,nfaD, u16D, issD, isD])
      refine evB_state bo53 rfl rfl (right1_ok _ n.set.length _ _ rfl) ?_ (fun _ _ h => h.elim)
      rintro d H' ⟨rfl, rfl⟩
      simp -dsimp (maxSteps:=999999) (disch:=omega) only[go_sem,simprocAttr, *]
      refine wz7 (fun hb2 => ?_) (fun hb2 => ?_) <;> try simp -dsimp (maxSteps:=999999) (disch:=omega) only[go_sem,simprocAttr,decide_eq_true_eq,decide_eq_false_iff_not,Bool.not_eq_true,Bool.not_eq_false,Int.not_lt,Int.not_le] at hb2
      repeat' (first | refine wz1 ?_ | refine wz2 ?_ | refine wz3 ?_ | refine wz4 ?_ | refine wz5 ?_ | refine wz6 ?_ | simp -dsimp (maxSteps:=999999) (disch:=omega) only[go_sem,simprocAttr, *])
      try rfl
    · replace ha : G = ((decide (-1 ≤ ru) && decide (ru < 16) && fr.all (isS n.set.length)) && allN (rowOk n) (j + 1) m) := by rw [ha, hi]; simp [hs0]
      rcases (by by_cases h1 : ru < -1; exact .inl h1; by_cases h2 : ru < 16; exact .inr (.inr ⟨h1, h2⟩); exact .inr (.inl ⟨h1, h2⟩) : ru < -1 ∨ (¬ ru < -1 ∧ ¬ ru < 16) ∨ (¬ ru < -1 ∧ ru < 16)) with h1 | ⟨h1, h2⟩ | ⟨h1, h2⟩
      · have hx : G = false := by rw [ha]; simp; omega
        rw [hx]
        clear ha hx
        repeat' (first | refine wz1 ?_ | refine wz2 ?_ | refine wz3 ?_ | refine wz4 ?_ | refine wz5 ?_ | refine wz6 ?_ | simp -dsimp (maxSteps:=999999) (disch:=omega) only[go_sem,simprocAttr, *,nfaD, u16D, issD, isD])
        refine evB_state bo53 rfl rfl (right1_ok _ n.set.length _ _ rfl) ?_ (fun _ _ h => h.elim); rintro d H' ⟨rfl, rfl⟩; simp -dsimp (maxSteps:=999999) (disch:=omega) only[go_sem,simprocAttr, *]
        refine wz7 (fun hb2 => ?_) (fun hb2 => ?_) <;> try simp -dsimp (maxSteps:=999999) (disch:=omega) only[go_sem,simprocAttr,decide_eq_true_eq,decide_eq_false_iff_not,Bool.not_eq_true,Bool.not_eq_false,Int.not_lt,Int.not_le] at hb2
        repeat' (first | refine wz1 ?_ | refine wz2 ?_ | refine wz3 ?_ | refine wz4 ?_ | refine wz5 ?_ | refine wz6 ?_ | simp -dsimp (maxSteps:=999999) (disch:=omega) only[go_sem,simprocAttr, *])
        try rfl
      · have hx : G = false := by rw [ha]; simp; omega
        rw [hx]
        clear ha hx
        repeat' (first | refine wz1 ?_ | refine wz2 ?_ | refine wz3 ?_ | refine wz4 ?_ | refine wz5 ?_ | refine wz6 ?_ | simp -dsimp (maxSteps:=999999) (disch:=omega) only[go_sem,simprocAttr, *,nfaD, u16D, issD, isD])
        refine evB_state bo53 rfl rfl (right1_ok _ n.set.length _ _ rfl) ?_ (fun _ _ h => h.elim); rintro d H' ⟨rfl, rfl⟩; simp -dsimp (maxSteps:=999999) (disch:=omega) only[go_sem,simprocAttr, *]
        refine wz7 (fun hb2 => ?_) (fun hb2 => ?_) <;> try simp -dsimp (maxSteps:=999999) (disch:=omega) only[go_sem,simprocAttr,decide_eq_true_eq,decide_eq_false_iff_not,Bool.not_eq_true,Bool.not_eq_false,Int.not_lt,Int.not_le] at hb2
        repeat' (first | refine wz1 ?_ | refine wz2 ?_ | refine wz3 ?_ | refine wz4 ?_ | refine wz5 ?_ | refine wz6 ?_ | simp -dsimp (maxSteps:=999999) (disch:=omega) only[go_sem,simprocAttr, *])
        try rfl
      · replace ha : G = (fr.all (isS n.set.length) && allN (rowOk n) (j + 1) m) := by rw [ha, show decide (-1 ≤ ru) = true by simp; omega, show decide (ru < 16) = true by simp; omega]; rfl
        repeat' (first | refine wz1 ?_ | refine wz2 ?_ | refine wz3 ?_ | refine wz4 ?_ | refine wz5 ?_ | refine wz6 ?_ | simp -dsimp (maxSteps:=999999) (disch:=omega) only[go_sem,simprocAttr, *,nfaD, u16D, issD, isD])
        refine evB_state bo53 rfl rfl (right1_ok _ n.set.length _ _ rfl) ?_ (fun _ _ h => h.elim); rintro d H' ⟨rfl, rfl⟩; simp -dsimp (maxSteps:=999999) (disch:=omega) only[go_sem,simprocAttr, *]
        refine wz7 (fun hb2 => ?_) (fun hb2 => ?_) <;> try simp -dsimp (maxSteps:=999999) (disch:=omega) only[go_sem,simprocAttr,decide_eq_true_eq,decide_eq_false_iff_not,Bool.not_eq_true,Bool.not_eq_false,Int.not_lt,Int.not_le] at hb2
        repeat' (first | refine wz1 ?_ | refine wz2 ?_ | refine wz3 ?_ | refine wz4 ?_ | refine wz5 ?_ | refine wz6 ?_ | simp -dsimp (maxSteps:=999999) (disch:=omega) only[go_sem,simprocAttr, *,nfaD, u16D, issD, isD])
        have hfl : fr.length ≤ 1000000 := hf fr (List.mem_of_getElem? hf1)
        have hi0 : G = ((fr.drop 0).all (isS n.set.length) && allN (rowOk n) (j + 1) m) := ha
        clear ha
        refine wpB_loop (fun e H => ∃ i : Nat, i ≤ fr.length ∧ H = H0 ∧ e 1 = .ptr 0 0 0 ∧ e 3 = .ptr 1 0 0 ∧ e 4 = .fn 53 [.ptr 1 0 0] ∧ e 39 = .int .i64 n.set.length ∧ e 40 = .int .i64 j ∧ e 79 = isD fr ∧ e 80 = .int .i64 fr.length ∧ e 81 = .int .i64 i ∧ G = ((fr.drop i).all (isS n.set.length) && allN (rowOk n) (j + 1) m)) (fun e H => fr.length - natOf (e 81)) ?_ ?_
        · exact ⟨0, Nat.zero_le _, rfl, gs, gs, gs, gs, gs, by simp -dsimp (maxSteps:=999999) (disch:=omega) only[go_sem,simprocAttr, *,isD], gs, gs, hi0⟩
        · clear hi0
          rintro e' H ⟨i, hi, rfl, e1, e3, e4, e39, e40, e79, e80, e81, ha⟩ R2 hR2
          simp only [H0]
          repeat' (first | refine wz1 ?_ | refine wz2 ?_ | refine wz3 ?_ | refine wz4 ?_ | refine wz5 ?_ | refine wz6 ?_ | simp -dsimp (maxSteps:=999999) (disch:=omega) only[go_sem,simprocAttr, *])
          refine wz7 (fun hb3 => ?_) (fun hb3 => ?_) <;> try simp -dsimp (maxSteps:=999999) (disch:=omega) only[go_sem,simprocAttr,decide_eq_true_eq,decide_eq_false_iff_not,Bool.not_eq_true,Bool.not_eq_false,Int.not_lt,Int.not_le] at hb3
          · rw [allL_drop hb3] at ha
            repeat' (first | refine wz1 ?_ | refine wz2 ?_ | refine wz3 ?_ | refine wz4 ?_ | refine wz5 ?_ | refine wz6 ?_ | simp -dsimp (maxSteps:=999999) (disch:=omega) only[go_sem,simprocAttr, *,isD])
            refine evB_state bo53 rfl rfl (right1_ok _ n.set.length _ _ rfl) ?_ (fun _ _ h => h.elim)
            rintro d H' ⟨rfl, rfl⟩
            cases hq : isS n.set.length fr[i] with
            | true =>
              rw [hq, Bool.true_and] at ha
              simp -dsimp (maxSteps:=999999) (disch:=omega) only[go_sem,simprocAttr, *]
              refine wz7 (fun hb4 => ?_) (fun hb4 => ?_) <;> try simp -dsimp (maxSteps:=999999) (disch:=omega) only[go_sem,simprocAttr,decide_eq_true_eq,decide_eq_false_iff_not,Bool.not_eq_true,Bool.not_eq_false,Int.not_lt,Int.not_le] at hb4
              repeat' (first | refine wz1 ?_ | refine wz2 ?_ | refine wz3 ?_ | refine wz4 ?_ | refine wz5 ?_ | refine wz6 ?_ | simp -dsimp (maxSteps:=999999) (disch:=omega) only[go_sem,simprocAttr, *])
              refine hR2 _ _ ⟨i + 1, by omega, rfl, gs, gs, gs, gs, gs, gs, gs, gs, ha⟩ ?_
              simp -dsimp (maxSteps:=999999) (disch:=omega) only[go_sem,simprocAttr, *,natOf_int]
            | false =>
              rw [hq, Bool.false_and, Bool.false_and] at ha
              rw [ha]
              simp -dsimp (maxSteps:=999999) (disch:=omega) only[go_sem,simprocAttr, *]
              refine wz7 (fun hb4 => ?_) (fun hb4 => ?_) <;> try simp -dsimp (maxSteps:=999999) (disch:=omega) only[go_sem,simprocAttr,decide_eq_true_eq,decide_eq_false_iff_not,Bool.not_eq_true,Bool.not_eq_false,Int.not_lt,Int.not_le] at hb4
              repeat' (first | refine wz1 ?_ | refine wz2 ?_ | refine wz3 ?_ | refine wz4 ?_ | refine wz5 ?_ | refine wz6 ?_ | simp -dsimp (maxSteps:=999999) (disch:=omega) only[go_sem,simprocAttr, *])
              try rfl
          · rw [List.drop_eq_nil_of_le (by omega)] at ha
            have ha' : G = allN (rowOk n) (j + 1) m := by rw [ha]; rfl
            repeat' (first | refine wz1 ?_ | refine wz2 ?_ | refine wz3 ?_ | refine wz4 ?_ | refine wz5 ?_ | refine wz6 ?_ | simp -dsimp (maxSteps:=999999) (disch:=omega) only[go_sem,simprocAttr, *])
            refine hR _ _ ⟨j + 1, m, by omega, rfl, gs, gs, gs, gs, gs, ha'⟩ ?_
            simp -dsimp (maxSteps:=999999) (disch:=omega) only[go_sem,simprocAttr, *,natOf_int]
    · replace ha : G = ((decide (-1 ≤ ru) && decide (ru < 16) && fr.all (isS n.set.length)) && allN (rowOk n) (j + 1) m) := by rw [ha]; simp [hs0]
      rcases (by by_cases h1 : ru < -1; exact .inl h1; by_cases h2 : ru < 16; exact .inr (.inr ⟨h1, h2⟩); exact .inr (.inl ⟨h1, h2⟩) : ru < -1 ∨ (¬ ru < -1 ∧ ¬ ru < 16) ∨ (¬ ru < -1 ∧ ru < 16)) with h1 | ⟨h1, h2⟩ | ⟨h1, h2⟩
      · have hx : G = false := by rw [ha]; simp; omega
        rw [hx]
        clear ha hx
        repeat' (first | refine wz1 ?_ | refine wz2 ?_ | refine wz3 ?_ | refine wz4 ?_ | refine wz5 ?_ | refine wz6 ?_ | simp -dsimp (maxSteps:=999999) (disch:=omega) only[go_sem,simprocAttr, *,nfaD, u16D, issD, isD])
        
        refine wz7 (fun hb2 => ?_) (fun hb2 => ?_) <;> try simp -dsimp (maxSteps:=999999) (disch:=omega) only[go_sem,simprocAttr,decide_eq_true_eq,decide_eq_false_iff_not,Bool.not_eq_true,Bool.not_eq_false,Int.not_lt,Int.not_le] at hb2
        repeat' (first | refine wz1 ?_ | refine wz2 ?_ | refine wz3 ?_ | refine wz4 ?_ | refine wz5 ?_ | refine wz6 ?_ | simp -dsimp (maxSteps:=999999) (disch:=omega) only[go_sem,simprocAttr, *])
        try rfl
      · have hx : G = false := by rw [ha]; simp; omega
        rw [hx]
        clear ha hx
        repeat' (first | refine wz1 ?_ | refine wz2 ?_ | refine wz3 ?_ | refine wz4 ?_ | refine wz5 ?_ | refine wz6 ?_ | simp -dsimp (maxSteps:=999999) (disch:=omega) only[go_sem,simprocAttr, *,nfaD, u16D, issD, isD])
        
        refine wz7 (fun hb2 => ?_) (fun hb2 => ?_) <;> try simp -dsimp (maxSteps:=999999) (disch:=omega) only[go_sem,simprocAttr,decide_eq_true_eq,decide_eq_false_iff_not,Bool.not_eq_true,Bool.not_eq_false,Int.not_lt,Int.not_le] at hb2
        repeat' (first | refine wz1 ?_ | refine wz2 ?_ | refine wz3 ?_ | refine wz4 ?_ | refine wz5 ?_ | refine wz6 ?_ | simp -dsimp (maxSteps:=999999) (disch:=omega) only[go_sem,simprocAttr, *])
        try rfl
      · replace ha : G = (fr.all (isS n.set.length) && allN (rowOk n) (j + 1) m) := by rw [ha, show decide (-1 ≤ ru) = true by simp; omega, show decide (ru < 16) = true by simp; omega]; rfl
        repeat' (first | refine wz1 ?_ | refine wz2 ?_ | refine wz3 ?_ | refine wz4 ?_ | refine wz5 ?_ | refine wz6 ?_ | simp -dsimp (maxSteps:=999999) (disch:=omega) only[go_sem,simprocAttr, *,nfaD, u16D, issD, isD])
        
        refine wz7 (fun hb2 => ?_) (fun hb2 => ?_) <;> try simp -dsimp (maxSteps:=999999) (disch:=omega) only[go_sem,simprocAttr,decide_eq_true_eq,decide_eq_false_iff_not,Bool.not_eq_true,Bool.not_eq_false,Int.not_lt,Int.not_le] at hb2
        repeat' (first | refine wz1 ?_ | refine wz2 ?_ | refine wz3 ?_ | refine wz4 ?_ | refine wz5 ?_ | refine wz6 ?_ | simp -dsimp (maxSteps:=999999) (disch:=omega) only[go_sem,simprocAttr, *,nfaD, u16D, issD, isD])
        have hfl : fr.length ≤ 1000000 := hf fr (List.mem_of_getElem? hf1)
        have hi0 : G = ((fr.drop 0).all (isS n.set.length) && allN (rowOk n) (j + 1) m) := ha
        clear ha
        refine wpB_loop (fun e H => ∃ i : Nat, i ≤ fr.length ∧ H = H0 ∧ e 1 = .ptr 0 0 0 ∧ e 3 = .ptr 1 0 0 ∧ e 4 = .fn 53 [.ptr 1 0 0] ∧ e 39 = .int .i64 n.set.length ∧ e 40 = .int .i64 j ∧ e 79 = isD fr ∧ e 80 = .int .i64 fr.length ∧ e 81 = .int .i64 i ∧ G = ((fr.drop i).all (isS n.set.length) && allN (rowOk n) (j + 1) m)) (fun e H => fr.length - natOf (e 81)) ?_ ?_
        · exact ⟨0, Nat.zero_le _, rfl, gs, gs, gs, gs, gs, by simp -dsimp (maxSteps:=999999) (disch:=omega) only[go_sem,simprocAttr, *,isD], gs, gs, hi0⟩
        · clear hi0
          rintro e' H ⟨i, hi, rfl, e1, e3, e4, e39, e40, e79, e80, e81, ha⟩ R2 hR2
          simp only [H0]
          repeat' (first | refine wz1 ?_ | refine wz2 ?_ | refine wz3 ?_ | refine wz4 ?_ | refine wz5 ?_ | refine wz6 ?_ | simp -dsimp (maxSteps:=999999) (disch:=omega) only[go_sem,simprocAttr, *])
          refine wz7 (fun hb3 => ?_) (fun hb3 => ?_) <;> try simp -dsimp (maxSteps:=999999) (disch:=omega) only[go_sem,simprocAttr,decide_eq_true_eq,decide_eq_false_iff_not,Bool.not_eq_true,Bool.not_eq_false,Int.not_lt,Int.not_le] at hb3
          · rw [allL_drop hb3] at ha
            repeat' (first | refine wz1 ?_ | refine wz2 ?_ | refine wz3 ?_ | refine wz4 ?_ | refine wz5 ?_ | refine wz6 ?_ | simp -dsimp (maxSteps:=999999) (disch:=omega) only[go_sem,simprocAttr, *,isD])
            refine evB_state bo53 rfl rfl (right1_ok _ n.set.length _ _ rfl) ?_ (fun _ _ h => h.elim)
            rintro d H' ⟨rfl, rfl⟩
            cases hq : isS n.set.length fr[i] with
            | true =>
              rw [hq, Bool.true_and] at ha
              simp -dsimp (maxSteps:=999999) (disch:=omega) only[go_sem,simprocAttr, *]
              refine wz7 (fun hb4 => ?_) (fun hb4 => ?_) <;> try simp -dsimp (maxSteps:=999999) (disch:=omega) only[go_sem,simprocAttr,decide_eq_true_eq,decide_eq_false_iff_not,Bool.not_eq_true,Bool.not_eq_false,Int.not_lt,Int.not_le] at hb4
              repeat' (first | refine wz1 ?_ | refine wz2 ?_ | refine wz3 ?_ | refine wz4 ?_ | refine wz5 ?_ | refine wz6 ?_ | simp -dsimp (maxSteps:=999999) (disch:=omega) only[go_sem,simprocAttr, *])
              refine hR2 _ _ ⟨i + 1, by omega, rfl, gs, gs, gs, gs, gs, gs, gs, gs, ha⟩ ?_
              simp -dsimp (maxSteps:=999999) (disch:=omega) only[go_sem,simprocAttr, *,natOf_int]
            | false =>
              rw [hq, Bool.false_and, Bool.false_and] at ha
              rw [ha]
              simp -dsimp (maxSteps:=999999) (disch:=omega) only[go_sem,simprocAttr, *]
              refine wz7 (fun hb4 => ?_) (fun hb4 => ?_) <;> try simp -dsimp (maxSteps:=999999) (disch:=omega) only[go_sem,simprocAttr,decide_eq_true_eq,decide_eq_false_iff_not,Bool.not_eq_true,Bool.not_eq_false,Int.not_lt,Int.not_le] at hb4
              repeat' (first | refine wz1 ?_ | refine wz2 ?_ | refine wz3 ?_ | refine wz4 ?_ | refine wz5 ?_ | refine wz6 ?_ | simp -dsimp (maxSteps:=999999) (disch:=omega) only[go_sem,simprocAttr, *])
              try rfl
          · rw [List.drop_eq_nil_of_le (by omega)] at ha
            have ha' : G = allN (rowOk n) (j + 1) m := by rw [ha]; rfl
            repeat' (first | refine wz1 ?_ | refine wz2 ?_ | refine wz3 ?_ | refine wz4 ?_ | refine wz5 ?_ | refine wz6 ?_ | simp -dsimp (maxSteps:=999999) (disch:=omega) only[go_sem,simprocAttr, *])
            refine hR _ _ ⟨j + 1, m, by omega, rfl, gs, gs, gs, gs, gs, ha'⟩ ?_
            simp -dsimp (maxSteps:=999999) (disch:=omega) only[go_sem,simprocAttr, *,natOf_int]
  · obtain rfl : m = 0 := by omega
    have : G = true := ha
    rw [this]
    repeat' (first | refine wz1 ?_ | refine wz2 ?_ | refine wz3 ?_ | refine wz4 ?_ | refine wz5 ?_ | refine wz6 ?_ | simp -dsimp (maxSteps:=999999) (disch:=omega) only[go_sem,simprocAttr, *])
    try rfl
end Go.Proofs.W
end
/- Machines with free steps: whether one may be, by the document. -/
section
set_option maxHeartbeats 4000000
set_option linter.unusedVariables false
set_option linter.unusedSimpArgs false
namespace Go.Proofs.W
open Go Vm Go.Proofs.Zs07

theorem rowOk_of {n : Nfa} {j : Nat} {s t ru : Int} {fr : List Int} (hs2 : n.set.getD j 0 = s) (ht2 : n.to.getD j 0 = t) (hr2 : n.rule.getD j 0 = ru) (hf2 : n.free.getD j [] = fr) : rowOk n j = (!(decide (s ≠ 0) && !isS n.set.length t) && decide (-1 ≤ ru) && decide (ru < 16) && fr.all (isS n.set.length)) := by simp only [rowOk, hs2, ht2, hr2, hf2]
def tyN (n : Nfa) : Prop := ∀ x ∈ n.set, 0 ≤ x ∧ x < 65536
end Go.Proofs.W
end
/- Machines with free steps: tables of states, as the document has them. -/
section
set_option maxHeartbeats 4000000
set_option linter.unusedVariables false
set_option linter.unusedSimpArgs false
namespace Go.Proofs.W
open Go Vm Go.Proofs.Zs07

/-- a table, as data -/
def tabD (k : Nat) (p : Nat → Bool) : List D := (List.range k).map fun i => .bool (p i)
theorem tabD_len {k : Nat} {p : Nat → Bool} : (tabD k p).length = k := by simp [tabD]
theorem tabD_at {k : Nat} {p : Nat → Bool} {i : Nat} (h : i < k) : (tabD k p)[i]? = some (.bool (p i)) := by simp [tabD, h]
theorem tabD_congr {k : Nat} {p q : Nat → Bool} (h : ∀ i, i < k → p i = q i) : tabD k p = tabD k q := by
  refine List.map_congr_left fun i hi => ?_
  rw [h i (by simpa using hi)]
theorem tabD_set {k : Nat} {p : Nat → Bool} {x : Nat} {b : Bool} (h : x < k) : (tabD k p).set x (.bool b) = tabD k fun i => if i = x then b else p i := by
  refine List.ext_getElem? fun i => ?_
  rw [List.getElem?_set]
  by_cases hi : i < k
  · rw [tabD_at hi, tabD_len]
    by_cases hx : x = i
    · subst hx; simp [h, tabD]
    · rw [if_neg hx, tabD_at hi, if_neg (fun e => hx e.symm)]
  · rw [List.getElem?_eq_none (by rw [tabD_len]; omega : (tabD k p).length ≤ i), List.getElem?_eq_none (by rw [tabD_len]; omega)]
    rw [if_neg (by omega)]
theorem strip_bools (l : List Nat) (p : Nat → Bool) : stripL (l.map fun i => D.bool (p i)) = some (l.map fun i => D.bool (p i)) := by
  induction l with
  | nil => rfl
  | cons q r ih => simp [stripL, ih, strip]
theorem strip_tabD (k : Nat) (p : Nat → Bool) : stripL (tabD k p) = some (tabD k p) := strip_bools _ p
theorem head_tabD (k : Nat) (p : Nat → Bool) : headSize 1 (tabD k p) = true := by
  unfold tabD
  cases List.range k <;> rfl
def tD (k : Nat) (p : Nat → Bool) : D := .sl false (tabD k p)
theorem strip_tD (k : Nat) (p : Nat → Bool) : strip (tD k p) = some (tD k p) := by simp [tD, strip, strip_tabD]
theorem mkBools {k : Nat} {H : Heap} (h1 : 1 ≤ k) (h2 : k ≤ 1000000) : makeSliceD Tryd.prog 66 (.int .i64 k) (.int .i64 k) H = some (.vec H.length 0 k, H ++ [.arr (tabD k fun _ => false)]) := by
  have h0 : List.replicate k (D.bool false) = tabD k fun _ => false := by
    refine List.ext_getElem? fun i => ?_
    by_cases hi : i < k
    · rw [tabD_at hi]; simp [hi]
    · rw [List.getElem?_eq_none (by simpa using hi), List.getElem?_eq_none (by rw [tabD_len]; omega)]
  simp only [makeSliceD, el66, sz4, by4, zr4, Option.bind_some, Int.toNat_natCast, h0]
  rw [if_pos ⟨by omega, by omega, by simp [mostBytes]; omega, by omega, rfl⟩, if_neg (by omega)]
theorem tab_size {H : Heap} {r k : Nat} {p : Nat → Bool} (h : hget H r = .arr (tabD k p)) (hk : 1 ≤ k) : vecSize H r 1 = true := vecSize_of h (fun h0 => by have := congrArg List.length h0; rw [tabD_len] at this; simp at this; omega) (head_tabD k p)
theorem vecO_tab {k : Nat} {p : Nat → Bool} (hk : 1 ≤ k) : vecO (.arr (tabD k p)) 1 = true := vecO_arr (fun h0 => by have := congrArg List.length h0; rw [tabD_len] at this; simp at this; omega) (head_tabD k p)
attribute [go_sem] tabD_len tabD_at tabD_set mkBools vecSize_o vecO_tab
theorem out_tab {H : Heap} {r k : Nat} {p : Nat → Bool} (hg : hget H r = .arr (tabD k p)) (hk : 1 ≤ k) (hr : r < H.length) : outPure H (.vec r 0 k) = some (tD k p) := by
  have h : VecIs (.vec r 0 k) H (tabD k p) := .inr ⟨fun h0 => by have := congrArg List.length h0; rw [tabD_len] at this; simp at this; omega, r, by rw [tabD_len], hg, hr⟩
  exact h.out (strip_tabD k p)
end Go.Proofs.W
end
/- In this chapter: lists of numbers alone. -/
section
set_option maxHeartbeats 4000000
set_option linter.unusedVariables false
set_option linter.unusedSimpArgs false
namespace Go.Proofs.W
end Go.Proofs.W
end
/- Expressions: whether they may be; whether they have the empty word. -/
section
set_option maxHeartbeats 4000000
set_option linter.unusedVariables false
set_option linter.unusedSimpArgs false
namespace Go.Proofs.W
open Go Vm Go.Proofs.Zs07

mutual
def sizeR : Rx → Nat
  | .mk _ _ l => sizeL l + 1
def sizeL : List Rx → Nat
  | [] => 0
  | r :: l => sizeR r + sizeL l
end
theorem sizeR_pos (r : Rx) : 0 < sizeR r := by cases r; simp [sizeR]
mutual
theorem cnt_eq : ∀ (r : Rx) (d : Nat) (left : Int), 0 ≤ left → ((cntR r d left).1 = true ↔ (sizeR r : Int) ≤ left ∧ depth r ≤ d ∧ shapesR r = true) ∧ ((cntR r d left).1 = true → (cntR r d left).2 = left - sizeR r)
  | .mk k s l, d, left, h => by
    simp only [cntR, sizeR, depth, shapesR, Bool.and_eq_true]
    by_cases h1 : left - 1 < 0
    · rw [if_pos (.inl h1)]
      simp only [Bool.false_eq_true, false_iff, false_implies, and_true, not_and]
      omega
    by_cases h2 : d = 0
    · rw [if_pos (.inr (.inl h2))]
      simp only [Bool.false_eq_true, false_iff, false_implies, and_true, not_and]
      omega
    by_cases h3 : shape1 k s l.length = false
    · rw [if_pos (.inr (.inr h3))]
      simp [h3]
    · rw [if_neg (by simp [h1, h2, h3])]
      have := cntL_eq l (d - 1) (left - 1) (by omega)
      simp only [Bool.not_eq_false] at h3
      simp only [h3, true_and]
      refine ⟨this.1.trans ⟨fun ⟨a, b, c⟩ => ⟨by omega, by omega, c⟩, fun ⟨a, b, c⟩ => ⟨by omega, by omega, c⟩⟩, fun h => ?_⟩
      rw [this.2 h]; omega
theorem cntL_eq : ∀ (l : List Rx) (d : Nat) (left : Int), 0 ≤ left → ((cntL l d left).1 = true ↔ (sizeL l : Int) ≤ left ∧ depthL l ≤ d ∧ shapesL l = true) ∧ ((cntL l d left).1 = true → (cntL l d left).2 = left - sizeL l)
  | [], d, left, h => by simp [cntL, sizeL, depthL, shapesL, h]
  | r :: l, d, left, h => by
    simp only [cntL, sizeL, depthL, shapesL, Bool.and_eq_true]
    have h1 := cnt_eq r d left h
    cases hc : (cntR r d left).1 with
    | false =>
      rw [hc] at h1
      simp only [Bool.false_eq_true, false_iff, false_implies, and_true, if_false, not_and] at h1 ⊢
      intro ha hb hs
      exact absurd hs (h1 (by omega) (by omega))
    | true =>
      rw [hc] at h1
      simp only [true_iff, if_true, forall_const] at h1 ⊢
      have h2 := cntL_eq l d (cntR r d left).2 (by omega)
      rw [h1.2] at h2 ⊢
      refine ⟨h2.1.trans ⟨fun ⟨a, b, c⟩ => ⟨by omega, by omega, h1.1.2.2, c⟩, fun ⟨a, b, c⟩ => ⟨by omega, by omega, c.2⟩⟩, fun h => ?_⟩
      rw [h2.2 h]; omega
end
mutual
theorem nodes_size : ∀ r : Rx, nodesR r ≤ 100 ↔ sizeR r ≤ 100
  | .mk k s l => by
    simp only [nodesR, sizeR]
    have := nodesL_size l 1 (by omega)
    omega
theorem nodesL_size : ∀ (l : List Rx) (n : Nat), 1 ≤ n → (nodesL n l ≤ 100 ↔ n + sizeL l ≤ 100)
  | [], n, h => by simp [nodesL, sizeL]
  | r :: l, n, h => by
    simp only [nodesL, sizeL]
    have h1 := nodes_size r
    have hp := sizeR_pos r
    split
    · have h2 := nodesL_size l (n + nodesR r) (by omega)
      rw [h2]
      have h3 := nodes_small r
      omega
    · omega
theorem nodes_small : ∀ r : Rx, (sizeR r ≤ 100 → nodesR r = sizeR r) ∧ (100 < sizeR r → 100 < nodesR r)
  | .mk k s l => by
    simp only [nodesR, sizeR]
    have := nodesL_small l 1 (by omega)
    exact ⟨fun h => by have := this.1 (by omega); omega, fun h => by have := this.2 (by omega); omega⟩
theorem nodesL_small : ∀ (l : List Rx) (n : Nat), 1 ≤ n → (n + sizeL l ≤ 100 → nodesL n l = n + sizeL l) ∧ (100 < n + sizeL l → 100 < nodesL n l)
  | [], n, h => by simp [nodesL, sizeL]
  | r :: l, n, h => by
    simp only [nodesL, sizeL]
    have h1 := nodes_small r
    have hp := sizeR_pos r
    split
    · rename_i hn
      have h2 := nodesL_small l (n + nodesR r) (by omega)
      refine ⟨fun ha => ?_, fun ha => ?_⟩
      · have e1 := h1.1 (by omega)
        rw [e1] at h2 ⊢
        have := h2.1 (by omega); omega
      · rcases Nat.lt_or_ge 100 (sizeR r) with hb | hb
        · have := h1.2 hb
          exact h2.2 (by omega)
        · have e1 := h1.1 hb
          rw [e1] at h2 ⊢
          exact h2.2 (by omega)
    · exact ⟨fun ha => by omega, fun ha => by omega⟩
end
theorem cnt_right (r : Rx) : (cntR r 12 100).1 = rightR r := by
  have h := (cnt_eq r 12 100 (by omega)).1
  have hn := nodes_size r
  unfold rightR
  rw [Bool.eq_iff_iff, h]
  simp only [Bool.and_eq_true, decide_eq_true_eq]
  constructor
  · rintro ⟨a, b, c⟩; exact ⟨⟨b, by omega⟩, c⟩
  · rintro ⟨⟨a, b⟩, c⟩; exact ⟨by omega, a, c⟩
theorem rightP_ok (r : Rx) (hr : okR r) : PureF Tryd.prog A 34 [rxD r] (.bool (rightR r)) := by
  rw [← cnt_right]
  have hc := count_ok 12 (by omega) r hr 100 (by omega) (by omega)
  have c1 := rx_cells r
  have c2 := rx_aggQ r
  have c3 := rx_noTup r
  refine evF_inB (n := 6) (rs := [.tmp 2]) Tryd.func34 rfl rfl rfl rfl rfl rfl ?_
  generalize rxD r = d at *
  have hc1 : EvF Tryd.prog A 51 [d, .int .i64 12, .ptr 1 0 0] [Ob.arr [d], Ob.arr [.int .i64 100]] (fun x H' => x = .bool (cntR r 12 100).1 ∧ PtrTo [Ob.arr [d], Ob.arr [.int .i64 100]] H' 1 (.int .i64 (cntR r 12 100).2)) (fun _ _ => False) := hc _ 1 rfl
  repeat' (first | refine wz1 ?_ | refine wz2 ?_ | refine wz3 ?_ | refine wz4 ?_ | refine wz5 ?_ | refine wz6 ?_ | simp -dsimp (maxSteps:=999999) (disch:=omega) only[go_sem,simprocAttr, *])
  refine evB_state bo51 rfl rfl hc1 ?_ (fun _ _ h => h.elim)
  rintro _ H' ⟨rfl, hP⟩
  simp -dsimp (maxSteps:=999999) (disch:=omega) only[go_sem,simprocAttr, *]
  repeat' (first | refine wz1 ?_ | refine wz2 ?_ | refine wz3 ?_ | refine wz4 ?_ | refine wz5 ?_ | refine wz6 ?_ | simp -dsimp (maxSteps:=999999) (disch:=omega) only[go_sem,simprocAttr, *])
def emptyR : Rx → Bool
  | .mk k _ l => if k = 1 then false else if k = 2 then emptyAll l else if k = 3 then emptyAny l else true
where
  emptyAll : List Rx → Bool
  | [] => true
  | r :: l => emptyR r && emptyAll l
  emptyAny : List Rx → Bool
  | [] => false
  | r :: l => emptyR r || emptyAny l
end Go.Proofs.W
end
/- In this chapter: nothing more of empty words. -/
section
set_option maxHeartbeats 4000000
set_option linter.unusedVariables false
set_option linter.unusedSimpArgs false
namespace Go.Proofs.W
end Go.Proofs.W
end
/- Expressions: where a word of one may end. -/
section
set_option maxHeartbeats 4000000
set_option linter.unusedVariables false
set_option linter.unusedSimpArgs false
namespace Go.Proofs.W
open Go Vm Go.Proofs.Zs07
set_option maxHeartbeats 40000000

def bsD (l : List Bool) : List D := l.map .bool
def bitZ (s c : Int) : Bool := IntKind.u16.wrap (BitVec.ofInt IntKind.u16.bits (s.fdiv (2 ^ (min c.toNat IntKind.u16.bits))) &&& BitVec.ofInt IntKind.u16.bits 1).toNat == 1
def inB (s c : Int) : Bool := decide (0 ≤ c) && decide (c < 16) && bitZ s c
def stepB (s : Int) (w : List Int) (fl : List Bool) : List Bool := false :: List.zipWith (fun b c => b && inB s c) fl w
def orB (a b : List Bool) : List Bool := List.zipWith (· || ·) a b
/-- as often as one likes, as long as there is more -/
def roundsB (f : List Bool → List Bool) (one : Bool) : Nat → List Bool → List Bool
  | 0, l => l
  | n + 1, l => if one = true ∨ orB l (f l) = l then orB l (f l) else roundsB f one n (orB l (f l))
mutual
def endsR (w : List Int) : Rx → List Bool → List Bool
  | .mk k s l, fl => if k = 0 then fl else if k = 1 then stepB s w fl else if k = 2 then endsCat w l fl else if k = 3 then endsAlt w l fl (List.replicate (w.length + 1) false)
      else if k = 4 ∨ k = 5 then roundsB (endsOne w l) (k == 5) (w.length + 1) fl else List.replicate (w.length + 1) false
def endsCat (w : List Int) : List Rx → List Bool → List Bool
  | [], fl => fl
  | r :: l, fl => endsCat w l (endsR w r fl)
def endsAlt (w : List Int) : List Rx → List Bool → List Bool → List Bool
  | [], _, acc => acc
  | r :: l, fl, acc => endsAlt w l fl (orB acc (endsR w r fl))
def endsOne (w : List Int) : List Rx → List Bool → List Bool
  | [], fl => fl
  | r :: _, fl => endsR w r fl
end
theorem orB_len {a b : List Bool} {n : Nat} (h : a.length = n) (g : b.length = n) : (orB a b).length = n := by simp [orB, h, g]
theorem rounds_len {f : List Bool → List Bool} {n : Nat} (hf : ∀ l, l.length = n → (f l).length = n) {one : Bool} : ∀ (m : Nat) (l : List Bool), l.length = n → (roundsB f one m l).length = n
  | 0, l, h => h
  | m + 1, l, h => by
    simp only [roundsB]
    have := orB_len h (hf l h)
    split
    · exact this
    · exact rounds_len hf m _ this
mutual
theorem ends_len (w : List Int) : ∀ (r : Rx) (fl : List Bool), fl.length = w.length + 1 → (endsR w r fl).length = w.length + 1
  | .mk k s l, fl, h => by
    simp only [endsR]
    split
    · exact h
    split
    · simp [stepB, h]
    split
    · exact endsCat_len w l fl h
    split
    · exact endsAlt_len w l fl _ h (by simp)
    split
    · exact rounds_len (fun x hx => endsOne_len w l x hx) _ fl h
    · simp
theorem endsCat_len (w : List Int) : ∀ (l : List Rx) (fl : List Bool), fl.length = w.length + 1 → (endsCat w l fl).length = w.length + 1
  | [], fl, h => h
  | r :: l, fl, h => endsCat_len w l _ (ends_len w r fl h)
theorem endsAlt_len (w : List Int) : ∀ (l : List Rx) (fl acc : List Bool), fl.length = w.length + 1 → acc.length = w.length + 1 → (endsAlt w l fl acc).length = w.length + 1
  | [], fl, acc, h, g => g
  | r :: l, fl, acc, h, g => endsAlt_len w l fl _ h (orB_len g (ends_len w r fl h))
theorem endsOne_len (w : List Int) : ∀ (l : List Rx) (fl : List Bool), fl.length = w.length + 1 → (endsOne w l fl).length = w.length + 1
  | [], fl, h => h
  | r :: _, fl, h => ends_len w r fl h
end
theorem vs_bools {H : Heap} {q : Nat} {l : List Bool} (h : hget H q = .arr (bsD l)) (hl : 0 < l.length) : vecSize H q 1 = true := by
  refine vecSize_of h ?_ ?_
  · cases l with
    | nil => simp at hl
    | cons b l => simp [bsD]
  · cases l <;> rfl
theorem bs_at {l : List Bool} {i : Nat} (h : i < l.length) : (bsD l)[i]? = some (.bool l[i]) := by simp [bsD, h]
theorem bs_set {l : List Bool} {i : Nat} {b : Bool} : (bsD l).set i (.bool b) = bsD (l.set i b) := by simp [bsD, List.map_set]
theorem bs_len {l : List Bool} : (bsD l).length = l.length := by simp [bsD]
theorem mk_bools {n : Int} {H : Heap} (h0 : 0 < n) (h1 : n ≤ 1000000) : makeSliceD Tryd.prog 66 (.int .i64 n) (.int .i64 n) H = some (.vec H.length 0 n.toNat, H ++ [Ob.arr (bsD (List.replicate n.toNat false))]) := by
  simp only [makeSliceD, el66, sz66, sz4, by4, zr4, Option.bind_some]
  have hcond : 0 ≤ n ∧ n ≤ n ∧ n.toNat * 1 ≤ mostBytes ∧ n < 2 ^ 62 ∧ (D.bool false).cells.length = 1 := ⟨by omega, Int.le_refl _, by simp only [mostBytes]; omega, by omega, rfl⟩
  rw [if_pos hcond, if_neg (by omega)]
  simp [bsD]
/-- steps as far as a place -/
def stepL (s : Int) (w : List Int) (fl : List Bool) (j : Nat) : List Bool := (stepB s w fl).take (j + 1) ++ List.replicate (w.length - j) false
theorem stepL_len {s : Int} {w : List Int} {fl : List Bool} (h : fl.length = w.length + 1) (j : Nat) (hj : j ≤ w.length) : (stepL s w fl j).length = w.length + 1 := by simp [stepL, stepB, h]; omega
theorem stepL_zero {s : Int} {w : List Int} {fl : List Bool} (h : fl.length = w.length + 1) : stepL s w fl 0 = List.replicate (w.length + 1) false := by simp [stepL, stepB, List.replicate_succ]
theorem stepL_end {s : Int} {w : List Int} {fl : List Bool} (h : fl.length = w.length + 1) : stepL s w fl w.length = stepB s w fl := by
  simp only [stepL, Nat.sub_self, List.replicate_zero, List.append_nil]
  exact List.take_of_length_le (by simp [stepB, h])
theorem stepL_next {s : Int} {w : List Int} {fl : List Bool} (h : fl.length = w.length + 1) {j : Nat} (hj : j < w.length) : stepL s w fl (j + 1) = (stepL s w fl j).set (j + 1) (fl[j] && inB s w[j]) := by
  have hS : (stepB s w fl)[j + 1]? = some (fl[j] && inB s w[j]) := by
    simp only [stepB, List.getElem?_cons_succ]
    rw [List.getElem?_zipWith, List.getElem?_eq_getElem (by omega), List.getElem?_eq_getElem hj]
  have hlen : ((stepB s w fl).take (j + 1)).length = j + 1 := by simp [stepB, h]; omega
  unfold stepL
  rw [List.take_add_one (i := j + 1), hS, show w.length - j = (w.length - (j + 1)) + 1 by omega, List.replicate_succ, List.set_append_right _ _ (by omega), hlen, Nat.sub_self]
  simp
theorem stepL_same {s : Int} {w : List Int} {fl : List Bool} (h : fl.length = w.length + 1) {j : Nat} (hj : j < w.length) : (stepL s w fl j).set (j + 1) false = stepL s w fl j := by
  have hlen : ((stepB s w fl).take (j + 1)).length = j + 1 := by simp [stepB, h]; omega
  unfold stepL
  rw [show w.length - j = (w.length - (j + 1)) + 1 by omega, List.replicate_succ, List.set_append_right _ _ (by omega), hlen, Nat.sub_self]
  simp
/-- lists joined as far as a place -/
def orL (a x : List Bool) (i : Nat) : List Bool := (orB a x).take i ++ a.drop i
theorem orL_zero {a x : List Bool} : orL a x 0 = a := by simp [orL]
theorem orL_end {a x : List Bool} {n : Nat} (h : a.length = n) (g : x.length = n) : orL a x n = orB a x := by
  simp only [orL]
  rw [List.take_of_length_le (by rw [orB_len h g]; omega), List.drop_eq_nil_of_le (by omega), List.append_nil]
theorem orL_len {a x : List Bool} {n i : Nat} (h : a.length = n) (g : x.length = n) (hi : i ≤ n) : (orL a x i).length = n := by
  simp [orL, orB_len h g, h]; omega
theorem orL_at {a x : List Bool} {n i : Nat} (h : a.length = n) (g : x.length = n) (hi : i < n) : (orL a x i)[i]? = some a[i] := by
  have hl : ((orB a x).take i).length = i := by simp [orB_len h g]; omega
  simp only [orL]
  rw [List.getElem?_append_right (by omega), hl, Nat.sub_self, List.getElem?_drop, Nat.add_zero, List.getElem?_eq_getElem (by omega)]
theorem orL_next {a x : List Bool} {n i : Nat} (h : a.length = n) (g : x.length = n) (hi : i < n) : orL a x (i + 1) = (orL a x i).set i (a[i] || x[i]) := by
  have hl : ((orB a x).take i).length = i := by simp [orB_len h g]; omega
  have hx : (orB a x)[i]? = some (a[i] || x[i]) := by
    simp only [orB]
    rw [List.getElem?_zipWith, List.getElem?_eq_getElem (by omega), List.getElem?_eq_getElem (by omega)]
  simp only [orL]
  rw [List.take_add_one, hx, List.set_append_right _ _ (by omega), hl, Nat.sub_self, List.drop_eq_getElem_cons (show i < a.length by omega), List.set_cons_zero]
  simp only [Option.toList_some, List.append_assoc, List.cons_append, List.nil_append]
/-- is there more, as far as a place? -/
def moreL (a x : List Bool) : Nat → Bool
  | 0 => false
  | i + 1 => moreL a x i || (x.getD i false && !a.getD i false)
theorem more_same {a x : List Bool} {n : Nat} (h : a.length = n) (g : x.length = n) : moreL a x n = false ↔ orB a x = a := by
  have key : ∀ i, moreL a x i = false ↔ ∀ j, j < i → (x.getD j false && !a.getD j false) = false := by
    intro i
    induction i with
    | zero => simp [moreL]
    | succ i ih =>
      simp only [moreL, Bool.or_eq_false_iff, ih]
      constructor
      · rintro ⟨h1, h2⟩ j hj
        rcases Nat.lt_succ_iff_lt_or_eq.1 hj with hj | rfl
        · exact h1 j hj
        · exact h2
      · exact fun h => ⟨fun j hj => h j (by omega), h i (by omega)⟩
  rw [key]
  constructor
  · intro hh
    apply List.ext_getElem (by rw [orB_len h g, h])
    intro j h1 h2
    have := hh j (by omega)
    simp only [List.getD, List.getElem?_eq_getElem (show j < x.length by omega), List.getElem?_eq_getElem h2, Option.getD_some] at this
    simp only [orB, List.getElem_zipWith]
    cases hx : x[j] <;> cases ha : a[j] <;> simp_all
  · intro hh j hj
    have h2 : (orB a x)[j]'(by rw [orB_len h g]; omega) = a[j] := by simp only [hh]
    simp only [orB, List.getElem_zipWith] at h2
    simp only [List.getD, List.getElem?_eq_getElem (show j < x.length by omega), List.getElem?_eq_getElem (show j < a.length by omega), Option.getD_some]
    cases hx : x[j] <;> cases ha : a[j] <;> simp_all
/-- what a call of Ends leaves -/
def EndsQ (H : Heap) (n : Nat) (l : List Bool) (d : D) (H' : Heap) : Prop := Same H.length H H' ∧ ∃ p, H.length ≤ p ∧ d = .vec p 0 n ∧ hget H' p = .arr (bsD l)
theorem step_len {s : Int} {w : List Int} {fl : List Bool} (h : fl.length = w.length + 1) : (stepB s w fl).length = w.length + 1 := by simp [stepB, h]
structure St (H0 H : Heap) (m q : Nat) (R : D) (fl : List Bool) : Prop where
  same : Same m H0 H
  rx : hget H m = .arr [R]
  fr : hget H q = .arr (bsD fl)
  lt : q < m
theorem St.set {H0 H : Heap} {m q p : Nat} {R : D} {fl : List Bool} {ob : Ob} (h : St H0 H m q R fl) (hp : m < p) : St H0 (H.set p ob) m q R fl :=
  ⟨h.same.trans (Same.set (by omega)), by rw [hget_set_ne (by omega)]; exact h.rx, by have := h.lt; rw [hget_set_ne (by omega)]; exact h.fr, h.lt⟩
theorem St.call {H0 H H' : Heap} {m q : Nat} {R : D} {fl : List Bool} (h : St H0 H m q R fl) (g : Same H.length H H') : St H0 H' m q R fl := by
  have h1 := lt_of_hget h.rx
  have h2 := h.lt
  exact ⟨h.same.trans (g.le (by omega)), by rw [g.2 m h1]; exact h.rx, by rw [g.2 q (by omega)]; exact h.fr, h.lt⟩
theorem take_set {α : Type} {L F : List α} {j : Nat} {x : α} (hL : j < L.length) (h : L.take j = F.take j) (hx : F[j]? = some x) : (L.set j x).take (j + 1) = F.take (j + 1) := by
  rw [List.take_add_one, List.take_add_one, List.take_set, h, hx]
  have : (L.set j x)[j]? = some x := by simp [hL]
  rw [this]
  rw [List.set_eq_of_length_le (by simp; omega)]
theorem ends_ok (w : List Int) (hw : w.length ≤ 1000) : ∀ (d : Nat) (r : Rx) (hr : okR r) (hd : depth r ≤ d) (hs : shapesR r = true) (fl : List Bool) (hfl : fl.length = w.length + 1) (H : Heap) (q : Nat) (hq : hget H q = .arr (bsD fl)),
    EvF Tryd.prog A 26 [rxD r, isD w, .vec q 0 (w.length + 1)] H (EndsQ H (w.length + 1) (endsR w r fl)) (fun _ _ => False) := by
  intro d
  induction d with
  | zero => rintro ⟨k, s, l⟩ _ h; simp [depth] at h
  | succ d ih =>
    rintro ⟨k, s, l⟩ hr hd hs fl hfl H q hq
    have hkid : ∀ x ∈ l, depth x ≤ d := fun x hx => by have := depth_kid (k := k) (s := s) hx; omega
    have hsk : ∀ x ∈ l, shapesR x = true := by
      simp only [shapesR, Bool.and_eq_true, shapesL_eq] at hs
      exact fun x hx => List.all_eq_true.1 hs.2 x hx
    obtain ⟨hk0, hk1, hs0, hs1, hlen, hok⟩ := hr
    have hqlt := lt_of_hget hq
    have hmk := fun H => mk_bools (n := (w.length : Int) + 1) (H := H) (by omega) (by omega)
    have hnat : ((w.length : Int) + 1).toNat = w.length + 1 := by omega
    simp only [hnat] at hmk
    refine evF_inB (n := 219) (rs := [.tmp 6]) Tryd.func26 rfl rfl rfl rfl rfl rfl ?_
    (refine wz1 ?_; refine wz2 ?_; simp -dsimp (maxSteps:=999999) (disch:=omega) only[go_sem,simprocAttr, *,isD])
    (refine wz1 ?_; refine wz2 ?_; simp -dsimp (maxSteps:=999999) (disch:=omega) only[go_sem,simprocAttr, *,isD])
    refine wpB_heap (fun H1 => St H H1 H.length q (rxD (.mk k s l)) fl ∧ hget H1 (H.length + 1) = .arr (bsD (List.replicate (w.length + 1) false))) ?_ ?_
    · refine ⟨⟨⟨by simp, fun i hi => ?_⟩, ?_, ?_, hqlt⟩, ?_⟩
      · rw [List.append_assoc, hget_app_lt hi]
      · rw [List.append_assoc, hget_app0]; rfl
      · rw [List.append_assoc, hget_app_lt hqlt]; exact hq
      · rw [List.append_assoc]; exact hget_app (H := H) (k := 1)
    · clear hmk hq
      generalize hm : H.length = m at *
      rintro H1 ⟨hst, hout⟩
      refine wpB_mid (fun e Hx => ∃ p, m ≤ p ∧ e 7 = .vec p 0 (w.length + 1) ∧ hget Hx p = .arr (bsD (endsR w (.mk k s l) fl)) ∧ Same m H Hx) ?_ ?_
      · intro R hR
        have hrx := hst.rx
        by_cases h0 : k = 0
        · subst h0
          have he : endsR w (.mk 0 s l) fl = fl := by simp [endsR]
          rw [he] at hR
          repeat' (first | refine wz1 ?_ | refine wz2 ?_ | refine wz3 ?_ | refine wz4 ?_ | refine wz5 ?_ | refine wz6 ?_ | simp -dsimp (maxSteps:=999999) (disch:=omega) only[go_sem,simprocAttr, *])
          refine wz7 (fun hb => ?_) (fun hb => ?_) <;> try simp -dsimp (maxSteps:=999999) (disch:=omega) only[go_sem,simprocAttr,decide_eq_true_eq,decide_eq_false_iff_not,Bool.not_eq_true,Bool.not_eq_false,Int.not_lt,Int.not_le] at hb
          repeat' (first | refine wz1 ?_ | refine wz2 ?_ | refine wz3 ?_ | refine wz4 ?_ | refine wz5 ?_ | refine wz6 ?_ | simp -dsimp (maxSteps:=999999) (disch:=omega) only[go_sem,simprocAttr, *])
          refine wpB_loop (fun e Hx => ∃ (j : Nat) (L : List Bool), j ≤ w.length + 1 ∧ L.length = w.length + 1 ∧ L.take j = fl.take j ∧ St H Hx m q (rxD (.mk 0 s l)) fl ∧ hget Hx (m + 1) = .arr (bsD L) ∧ e 1 = isD w ∧ e 2 = .vec q 0 (w.length + 1) ∧ e 3 = .ptr m 0 0 ∧ e 7 = .vec (m + 1) 0 (w.length + 1) ∧ e 8 = .int .i64 j) (fun e H => w.length + 1 - natOf (e 8)) ?_ ?_
          · exact ⟨0, List.replicate (w.length + 1) false, by omega, by simp, rfl, hst, hout, by simp -dsimp (maxSteps:=999999) (disch:=omega) only[go_sem,simprocAttr, *,isD], gs, gs, gs, rfl⟩
          · clear hst hout
            rintro e Hx ⟨j, L, hj, hL, htk, hst, hout, e1, e2, e3, e7, e8⟩ R2 hR2
            have hv1 := vs_bools hout (by omega)
            have hv2 := vs_bools hst.fr (by omega)
            have hfr := hst.fr
            repeat' (first | refine wz1 ?_ | refine wz2 ?_ | refine wz3 ?_ | refine wz4 ?_ | refine wz5 ?_ | refine wz6 ?_ | simp -dsimp (maxSteps:=999999) (disch:=omega) only[go_sem,simprocAttr, *])
            refine wz7 (fun hb2 => ?_) (fun hb2 => ?_) <;> try simp -dsimp (maxSteps:=999999) (disch:=omega) only[go_sem,simprocAttr,decide_eq_true_eq,decide_eq_false_iff_not,Bool.not_eq_true,Bool.not_eq_false,Int.not_lt,Int.not_le] at hb2
            · have hlt : j < w.length + 1 := by omega
              have hx := bs_at (l := fl) (i := j) (by omega)
              have hy := bs_at (l := L) (i := j) (by omega)
              repeat' (first | refine wz1 ?_ | refine wz2 ?_ | refine wz3 ?_ | refine wz4 ?_ | refine wz5 ?_ | refine wz6 ?_ | simp -dsimp (maxSteps:=999999) (disch:=omega) only[go_sem,simprocAttr, *])
              refine hR2 _ _ ⟨j + 1, L.set j fl[j], by omega, by simp [hL], take_set (by omega) htk (List.getElem?_eq_getElem (by omega)), ?_, ?_, gs, gs, gs, gs, gs⟩ ?_
              · exact hst.set (by omega)
              · rw [bs_set]; exact hget_set_eq (lt_of_hget hout)
              · simp -dsimp (maxSteps:=999999) (disch:=omega) only[go_sem,simprocAttr, *,natOf_int]
            · rw [List.take_of_length_le (by omega), List.take_of_length_le (by omega)] at htk
              subst htk
              repeat' (first | refine wz1 ?_ | refine wz2 ?_ | refine wz3 ?_ | refine wz4 ?_ | refine wz5 ?_ | refine wz6 ?_ | simp -dsimp (maxSteps:=999999) (disch:=omega) only[go_sem,simprocAttr, *])
              exact hR _ _ ⟨m + 1, by omega, gs, hout, hst.same⟩
        by_cases h1 : k = 1
        · subst h1
          have he : endsR w (.mk 1 s l) fl = stepB s w fl := by simp [endsR]
          rw [he] at hR
          repeat' (first | refine wz1 ?_ | refine wz2 ?_ | refine wz3 ?_ | refine wz4 ?_ | refine wz5 ?_ | refine wz6 ?_ | simp -dsimp (maxSteps:=999999) (disch:=omega) only[go_sem,simprocAttr, *])
          refine wz7 (fun hb => ?_) (fun hb => ?_) <;> try simp -dsimp (maxSteps:=999999) (disch:=omega) only[go_sem,simprocAttr,decide_eq_true_eq,decide_eq_false_iff_not,Bool.not_eq_true,Bool.not_eq_false,Int.not_lt,Int.not_le] at hb
          repeat' (first | refine wz1 ?_ | refine wz2 ?_ | refine wz3 ?_ | refine wz4 ?_ | refine wz5 ?_ | refine wz6 ?_ | simp -dsimp (maxSteps:=999999) (disch:=omega) only[go_sem,simprocAttr, *])
          refine wz7 (fun hb => ?_) (fun hb => ?_) <;> try simp -dsimp (maxSteps:=999999) (disch:=omega) only[go_sem,simprocAttr,decide_eq_true_eq,decide_eq_false_iff_not,Bool.not_eq_true,Bool.not_eq_false,Int.not_lt,Int.not_le] at hb
          repeat' (first | refine wz1 ?_ | refine wz2 ?_ | refine wz3 ?_ | refine wz4 ?_ | refine wz5 ?_ | refine wz6 ?_ | simp -dsimp (maxSteps:=999999) (disch:=omega) only[go_sem,simprocAttr, *])
          refine wpB_loop (fun e Hx => ∃ (j : Nat), j ≤ w.length ∧ St H Hx m q (rxD (.mk 1 s l)) fl ∧ hget Hx (m + 1) = .arr (bsD (stepL s w fl j)) ∧ e 1 = isD w ∧ e 2 = .vec q 0 (w.length + 1) ∧ e 3 = .ptr m 0 0 ∧ e 7 = .vec (m + 1) 0 (w.length + 1) ∧ e 9 = .int .i64 j) (fun e H => w.length - natOf (e 9)) ?_ ?_
          · exact ⟨0, by omega, hst, by rw [stepL_zero hfl]; exact hout, by simp -dsimp (maxSteps:=999999) (disch:=omega) only[go_sem,simprocAttr, *,isD], gs, gs, gs, rfl⟩
          · clear hst hout hrx
            rintro e Hx ⟨j, hj, hst, hout, e1, e2, e3, e7, e9⟩ R2 hR2
            have hLl := stepL_len (s := s) hfl j (by omega)
            have hv1 := vs_bools hout (by omega)
            have hv2 := vs_bools hst.fr (by omega)
            have hfr := hst.fr
            have hrx := hst.rx
            repeat' (first | refine wz1 ?_ | refine wz2 ?_ | refine wz3 ?_ | refine wz4 ?_ | refine wz5 ?_ | refine wz6 ?_ | simp -dsimp (maxSteps:=999999) (disch:=omega) only[go_sem,simprocAttr, *,isD])
            refine wz7 (fun hb2 => ?_) (fun hb2 => ?_) <;> try simp -dsimp (maxSteps:=999999) (disch:=omega) only[go_sem,simprocAttr,decide_eq_true_eq,decide_eq_false_iff_not,Bool.not_eq_true,Bool.not_eq_false,Int.not_lt,Int.not_le] at hb2
            · have hx := bs_at (l := fl) (i := j) (by omega)
              have hnext := stepL_next (s := s) hfl hb2
              by_cases c1 : fl[j] = true
              · by_cases c2 : 0 ≤ w[j]
                · by_cases c3 : w[j] < 16
                  · cases hbz : bitZ s w[j] with
                    | true =>
                      have hz : (fl[j] && inB s w[j]) = true := by simp [inB, c1, c2, c3, hbz]
                      simp only [bitZ] at hbz
                      rw [hz] at hnext
                      have hy := bs_at (l := stepL s w fl j) (i := j + 1) (by omega)
                      repeat' (first | refine wz1 ?_ | refine wz2 ?_ | refine wz3 ?_ | refine wz4 ?_ | refine wz5 ?_ | refine wz6 ?_ | simp -dsimp (maxSteps:=999999) (disch:=omega) only[go_sem,simprocAttr, *,isD])
                      refine wpB_regionXL (prs := []) (by kernel_rfl) rfl (by kernel_rfl) ?_; simp -dsimp (maxSteps:=999999) (disch:=omega) only[go_sem,simprocAttr, *,isD]
                      refine wz7 (fun hb3 => ?_) (fun hb3 => ?_) <;> try simp -dsimp (maxSteps:=999999) (disch:=omega) only[go_sem,simprocAttr,decide_eq_true_eq,decide_eq_false_iff_not,Bool.not_eq_true,Bool.not_eq_false,Int.not_lt,Int.not_le] at hb3
                      · repeat' (first | refine wz1 ?_ | refine wz2 ?_ | refine wz3 ?_ | refine wz4 ?_ | refine wz5 ?_ | refine wz6 ?_ | simp -dsimp (maxSteps:=999999) (disch:=omega) only[go_sem,simprocAttr, *,isD])
                        refine hR2 _ _ ⟨j + 1, by omega, hst.set (by omega), ?_, gs, gs, gs, gs, gs⟩ ?_
                        · rw [hnext, ← bs_set]; exact hget_set_eq (lt_of_hget hout)
                        · simp -dsimp (maxSteps:=999999) (disch:=omega) only[go_sem,simprocAttr, *,natOf_int]
                      · exact absurd (hbz.symm.trans hb3) (by decide)
                    | false =>
                      have hz : (fl[j] && inB s w[j]) = false := by simp [inB, hbz]
                      rw [hz] at hnext
                      have hsame : (stepL s w fl j).set (j + 1) false = stepL s w fl j := stepL_same hfl hb2
                      rw [hsame] at hnext
                      clear hz hsame
                      simp only [bitZ] at hbz
                      repeat' (first | refine wz1 ?_ | refine wz2 ?_ | refine wz3 ?_ | refine wz4 ?_ | refine wz5 ?_ | refine wz6 ?_ | simp -dsimp (maxSteps:=999999) (disch:=omega) only[go_sem,simprocAttr, *,isD])
                      refine wpB_regionXL (prs := []) (by kernel_rfl) rfl (by kernel_rfl) ?_; simp -dsimp (maxSteps:=999999) (disch:=omega) only[go_sem,simprocAttr, *,isD]
                      refine wz7 (fun hb3 => ?_) (fun hb3 => ?_) <;> try simp -dsimp (maxSteps:=999999) (disch:=omega) only[go_sem,simprocAttr,decide_eq_true_eq,decide_eq_false_iff_not,Bool.not_eq_true,Bool.not_eq_false,Int.not_lt,Int.not_le] at hb3
                      · exact absurd (hbz.symm.trans hb3) (by decide)
                      · repeat' (first | refine wz1 ?_ | refine wz2 ?_ | refine wz3 ?_ | refine wz4 ?_ | refine wz5 ?_ | refine wz6 ?_ | simp -dsimp (maxSteps:=999999) (disch:=omega) only[go_sem,simprocAttr, *,isD])
                        refine hR2 _ _ ⟨j + 1, by omega, hst, by rw [hnext]; exact hout, gs, gs, gs, gs, gs⟩ ?_
                        simp -dsimp (maxSteps:=999999) (disch:=omega) only[go_sem,simprocAttr, *,natOf_int]
                  · have hz0 := c3
                    have hz : (fl[j] && inB s w[j]) = false := by simp [inB, c3]
                    rw [hz] at hnext
                    have hsame : (stepL s w fl j).set (j + 1) false = stepL s w fl j := stepL_same hfl hb2
                    rw [hsame] at hnext
                    clear hz hsame
                    repeat' (first | refine wz1 ?_ | refine wz2 ?_ | refine wz3 ?_ | refine wz4 ?_ | refine wz5 ?_ | refine wz6 ?_ | simp -dsimp (maxSteps:=999999) (disch:=omega) only[go_sem,simprocAttr, *,isD])
                    refine wpB_regionXL (prs := []) (by kernel_rfl) rfl (by kernel_rfl) ?_; simp -dsimp (maxSteps:=999999) (disch:=omega) only[go_sem,simprocAttr, *,isD]
                    refine wz7 (fun hb3 => ?_) (fun hb3 => ?_) <;> try simp -dsimp (maxSteps:=999999) (disch:=omega) only[go_sem,simprocAttr,decide_eq_true_eq,decide_eq_false_iff_not,Bool.not_eq_true,Bool.not_eq_false,Int.not_lt,Int.not_le] at hb3
                    repeat' (first | refine wz1 ?_ | refine wz2 ?_ | refine wz3 ?_ | refine wz4 ?_ | refine wz5 ?_ | refine wz6 ?_ | simp -dsimp (maxSteps:=999999) (disch:=omega) only[go_sem,simprocAttr, *,isD])
                    refine hR2 _ _ ⟨j + 1, by omega, hst, by rw [hnext]; exact hout, gs, gs, gs, gs, gs⟩ ?_
                    simp -dsimp (maxSteps:=999999) (disch:=omega) only[go_sem,simprocAttr, *,natOf_int]
                · have hz0 := c2
                  have hz : (fl[j] && inB s w[j]) = false := by simp [inB, c2]
                  rw [hz] at hnext
                  have hsame : (stepL s w fl j).set (j + 1) false = stepL s w fl j := stepL_same hfl hb2
                  rw [hsame] at hnext
                  clear hz hsame
                  repeat' (first | refine wz1 ?_ | refine wz2 ?_ | refine wz3 ?_ | refine wz4 ?_ | refine wz5 ?_ | refine wz6 ?_ | simp -dsimp (maxSteps:=999999) (disch:=omega) only[go_sem,simprocAttr, *,isD])
                  refine wpB_regionXL (prs := []) (by kernel_rfl) rfl (by kernel_rfl) ?_; simp -dsimp (maxSteps:=999999) (disch:=omega) only[go_sem,simprocAttr, *,isD]
                  refine wz7 (fun hb3 => ?_) (fun hb3 => ?_) <;> try simp -dsimp (maxSteps:=999999) (disch:=omega) only[go_sem,simprocAttr,decide_eq_true_eq,decide_eq_false_iff_not,Bool.not_eq_true,Bool.not_eq_false,Int.not_lt,Int.not_le] at hb3
                  repeat' (first | refine wz1 ?_ | refine wz2 ?_ | refine wz3 ?_ | refine wz4 ?_ | refine wz5 ?_ | refine wz6 ?_ | simp -dsimp (maxSteps:=999999) (disch:=omega) only[go_sem,simprocAttr, *,isD])
                  refine hR2 _ _ ⟨j + 1, by omega, hst, by rw [hnext]; exact hout, gs, gs, gs, gs, gs⟩ ?_
                  simp -dsimp (maxSteps:=999999) (disch:=omega) only[go_sem,simprocAttr, *,natOf_int]
              · simp only [Bool.not_eq_true] at c1
                have hz : (fl[j] && inB s w[j]) = false := by simp [inB, c1]
                rw [hz] at hnext
                have hsame : (stepL s w fl j).set (j + 1) false = stepL s w fl j := stepL_same hfl hb2
                rw [hsame] at hnext
                clear hz hsame
                repeat' (first | refine wz1 ?_ | refine wz2 ?_ | refine wz3 ?_ | refine wz4 ?_ | refine wz5 ?_ | refine wz6 ?_ | simp -dsimp (maxSteps:=999999) (disch:=omega) only[go_sem,simprocAttr, *,isD])
                refine wpB_regionXL (prs := []) (by kernel_rfl) rfl (by kernel_rfl) ?_; simp -dsimp (maxSteps:=999999) (disch:=omega) only[go_sem,simprocAttr, *,isD]
                refine wz7 (fun hb3 => ?_) (fun hb3 => ?_) <;> try simp -dsimp (maxSteps:=999999) (disch:=omega) only[go_sem,simprocAttr,decide_eq_true_eq,decide_eq_false_iff_not,Bool.not_eq_true,Bool.not_eq_false,Int.not_lt,Int.not_le] at hb3
                repeat' (first | refine wz1 ?_ | refine wz2 ?_ | refine wz3 ?_ | refine wz4 ?_ | refine wz5 ?_ | refine wz6 ?_ | simp -dsimp (maxSteps:=999999) (disch:=omega) only[go_sem,simprocAttr, *,isD])
                refine hR2 _ _ ⟨j + 1, by omega, hst, by rw [hnext]; exact hout, gs, gs, gs, gs, gs⟩ ?_
                simp -dsimp (maxSteps:=999999) (disch:=omega) only[go_sem,simprocAttr, *,natOf_int]
            · have hjw : j = w.length := by omega
              subst hjw
              rw [stepL_end hfl] at hout
              repeat' (first | refine wz1 ?_ | refine wz2 ?_ | refine wz3 ?_ | refine wz4 ?_ | refine wz5 ?_ | refine wz6 ?_ | simp -dsimp (maxSteps:=999999) (disch:=omega) only[go_sem,simprocAttr, *])
              exact hR _ _ ⟨m + 1, by omega, gs, hout, hst.same⟩
        by_cases h2 : k = 2
        · subst h2
          have he : endsR w (.mk 2 s l) fl = endsCat w l fl := by simp [endsR]
          rw [he] at hR
          repeat' (first | refine wz1 ?_ | refine wz2 ?_ | refine wz3 ?_ | refine wz4 ?_ | refine wz5 ?_ | refine wz6 ?_ | simp -dsimp (maxSteps:=999999) (disch:=omega) only[go_sem,simprocAttr, *])
          refine wz7 (fun hb => ?_) (fun hb => ?_) <;> try simp -dsimp (maxSteps:=999999) (disch:=omega) only[go_sem,simprocAttr,decide_eq_true_eq,decide_eq_false_iff_not,Bool.not_eq_true,Bool.not_eq_false,Int.not_lt,Int.not_le] at hb
          repeat' (first | refine wz1 ?_ | refine wz2 ?_ | refine wz3 ?_ | refine wz4 ?_ | refine wz5 ?_ | refine wz6 ?_ | simp -dsimp (maxSteps:=999999) (disch:=omega) only[go_sem,simprocAttr, *])
          refine wz7 (fun hb => ?_) (fun hb => ?_) <;> try simp -dsimp (maxSteps:=999999) (disch:=omega) only[go_sem,simprocAttr,decide_eq_true_eq,decide_eq_false_iff_not,Bool.not_eq_true,Bool.not_eq_false,Int.not_lt,Int.not_le] at hb
          repeat' (first | refine wz1 ?_ | refine wz2 ?_ | refine wz3 ?_ | refine wz4 ?_ | refine wz5 ?_ | refine wz6 ?_ | simp -dsimp (maxSteps:=999999) (disch:=omega) only[go_sem,simprocAttr, *])
          refine wz7 (fun hb => ?_) (fun hb => ?_) <;> try simp -dsimp (maxSteps:=999999) (disch:=omega) only[go_sem,simprocAttr,decide_eq_true_eq,decide_eq_false_iff_not,Bool.not_eq_true,Bool.not_eq_false,Int.not_lt,Int.not_le] at hb
          repeat' (first | refine wz1 ?_ | refine wz2 ?_ | refine wz3 ?_ | refine wz4 ?_ | refine wz5 ?_ | refine wz6 ?_ | simp -dsimp (maxSteps:=999999) (disch:=omega) only[go_sem,simprocAttr, *])
          refine wpB_loop (fun e Hx => ∃ (j : Nat) (L : List Bool), j ≤ w.length + 1 ∧ L.length = w.length + 1 ∧ L.take j = fl.take j ∧ St H Hx m q (rxD (.mk 2 s l)) fl ∧ hget Hx (m + 1) = .arr (bsD L) ∧ e 1 = isD w ∧ e 2 = .vec q 0 (w.length + 1) ∧ e 3 = .ptr m 0 0 ∧ e 7 = .vec (m + 1) 0 (w.length + 1) ∧ e 10 = .int .i64 j) (fun e H => w.length + 1 - natOf (e 10)) ?_ ?_
          · exact ⟨0, List.replicate (w.length + 1) false, by omega, by simp, rfl, hst, hout, by simp -dsimp (maxSteps:=999999) (disch:=omega) only[go_sem,simprocAttr, *,isD], gs, gs, gs, rfl⟩
          · clear hst hout
            rintro e Hx ⟨j, L, hj, hL, htk, hst, hout, e1, e2, e3, e7, e10⟩ R2 hR2
            have hv1 := vs_bools hout (by omega)
            have hv2 := vs_bools hst.fr (by omega)
            have hfr := hst.fr
            repeat' (first | refine wz1 ?_ | refine wz2 ?_ | refine wz3 ?_ | refine wz4 ?_ | refine wz5 ?_ | refine wz6 ?_ | simp -dsimp (maxSteps:=999999) (disch:=omega) only[go_sem,simprocAttr, *])
            refine wz7 (fun hb2 => ?_) (fun hb2 => ?_) <;> try simp -dsimp (maxSteps:=999999) (disch:=omega) only[go_sem,simprocAttr,decide_eq_true_eq,decide_eq_false_iff_not,Bool.not_eq_true,Bool.not_eq_false,Int.not_lt,Int.not_le] at hb2
            · have hlt : j < w.length + 1 := by omega
              have hx := bs_at (l := fl) (i := j) (by omega)
              have hy := bs_at (l := L) (i := j) (by omega)
              repeat' (first | refine wz1 ?_ | refine wz2 ?_ | refine wz3 ?_ | refine wz4 ?_ | refine wz5 ?_ | refine wz6 ?_ | simp -dsimp (maxSteps:=999999) (disch:=omega) only[go_sem,simprocAttr, *])
              refine hR2 _ _ ⟨j + 1, L.set j fl[j], by omega, by simp [hL], take_set (by omega) htk (List.getElem?_eq_getElem (by omega)), ?_, ?_, gs, gs, gs, gs, gs⟩ ?_
              · exact hst.set (by omega)
              · rw [bs_set]; exact hget_set_eq (lt_of_hget hout)
              · simp -dsimp (maxSteps:=999999) (disch:=omega) only[go_sem,simprocAttr, *,natOf_int]
            · rw [List.take_of_length_le (by omega), List.take_of_length_le (by omega)] at htk
              subst htk
              clear hR2 hv1 hv2 hfr hb2
              have hrx := hst.rx
              repeat' (first | refine wz1 ?_ | refine wz2 ?_ | refine wz3 ?_ | refine wz4 ?_ | refine wz5 ?_ | refine wz6 ?_ | simp -dsimp (maxSteps:=999999) (disch:=omega) only[go_sem,simprocAttr, *])
              refine wpB_loop (fun e Hx => ∃ (j p : Nat) (M : List Bool), j ≤ l.length ∧ M.length = w.length + 1 ∧ St H Hx m q (rxD (.mk 2 s l)) L ∧ m ≤ p ∧ hget Hx p = .arr (bsD M) ∧ e 1 = isD w ∧ e 3 = .ptr m 0 0 ∧ e 7 = .vec p 0 (w.length + 1) ∧ e 11 = .int .i64 j ∧ endsCat w l L = endsCat w (l.drop j) M) (fun e H => l.length - natOf (e 11)) ?_ ?_
              · exact ⟨0, m + 1, L, by omega, hL, hst, by omega, hout, gs, gs, gs, rfl, by simp⟩
              · clear hst hout hrx hj
                rintro e Hx ⟨j, p, M, hj, hM, hst, hp, hout, e1, e3, e7, e11, ha⟩ R2 hR2
                have hrx := hst.rx
                repeat' (first | refine wz1 ?_ | refine wz2 ?_ | refine wz3 ?_ | refine wz4 ?_ | refine wz5 ?_ | refine wz6 ?_ | simp -dsimp (maxSteps:=999999) (disch:=omega) only[go_sem,simprocAttr, *])
                refine wz7 (fun hb2 => ?_) (fun hb2 => ?_) <;> try simp -dsimp (maxSteps:=999999) (disch:=omega) only[go_sem,simprocAttr,decide_eq_true_eq,decide_eq_false_iff_not,Bool.not_eq_true,Bool.not_eq_false,Int.not_lt,Int.not_le] at hb2
                · rw [List.drop_eq_getElem_cons hb2] at ha
                  simp only [endsCat] at ha
                  have hsj : shapesR l[j] = true := hsk _ (List.getElem_mem hb2)
                  repeat' (first | refine wz1 ?_ | refine wz2 ?_ | refine wz3 ?_ | refine wz4 ?_ | refine wz5 ?_ | refine wz6 ?_ | simp -dsimp (maxSteps:=999999) (disch:=omega) only[go_sem,simprocAttr, *])
                  refine evB_state bo26 rfl rfl (ih l[j] (okL_get hok _ (List.getElem_mem hb2)) (hkid _ (List.getElem_mem hb2)) hsj M hM Hx p hout) ?_ (fun _ _ h => h.elim)
                  rintro _ Hy ⟨hsame, p', hp', rfl, hout'⟩
                  have hlx := lt_of_hget hst.rx
                  simp -dsimp (maxSteps:=999999) (disch:=omega) only[go_sem,simprocAttr, *]
                  repeat' (first | refine wz1 ?_ | refine wz2 ?_ | refine wz3 ?_ | refine wz4 ?_ | refine wz5 ?_ | refine wz6 ?_ | simp -dsimp (maxSteps:=999999) (disch:=omega) only[go_sem,simprocAttr, *])
                  refine hR2 _ _ ⟨j + 1, p', _, by omega, ends_len w l[j] M hM, hst.call hsame, by omega, hout', gs, gs, gs, gs, ha⟩ ?_
                  simp -dsimp (maxSteps:=999999) (disch:=omega) only[go_sem,simprocAttr, *,natOf_int]
                · rw [List.drop_eq_nil_of_le (by omega)] at ha
                  simp only [endsCat] at ha
                  rw [ha] at hR
                  repeat' (first | refine wz1 ?_ | refine wz2 ?_ | refine wz3 ?_ | refine wz4 ?_ | refine wz5 ?_ | refine wz6 ?_ | simp -dsimp (maxSteps:=999999) (disch:=omega) only[go_sem,simprocAttr, *])
                  exact hR _ _ ⟨p, hp, gs, hout, hst.same⟩
        by_cases h3 : k = 3
        · subst h3
          have he : endsR w (.mk 3 s l) fl = endsAlt w l fl (List.replicate (w.length + 1) false) := by simp [endsR]
          rw [he] at hR
          repeat' (first | refine wz1 ?_ | refine wz2 ?_ | refine wz3 ?_ | refine wz4 ?_ | refine wz5 ?_ | refine wz6 ?_ | simp -dsimp (maxSteps:=999999) (disch:=omega) only[go_sem,simprocAttr, *])
          refine wz7 (fun hb => ?_) (fun hb => ?_) <;> try simp -dsimp (maxSteps:=999999) (disch:=omega) only[go_sem,simprocAttr,decide_eq_true_eq,decide_eq_false_iff_not,Bool.not_eq_true,Bool.not_eq_false,Int.not_lt,Int.not_le] at hb
          repeat' (first | refine wz1 ?_ | refine wz2 ?_ | refine wz3 ?_ | refine wz4 ?_ | refine wz5 ?_ | refine wz6 ?_ | simp -dsimp (maxSteps:=999999) (disch:=omega) only[go_sem,simprocAttr, *])
          refine wz7 (fun hb => ?_) (fun hb => ?_) <;> try simp -dsimp (maxSteps:=999999) (disch:=omega) only[go_sem,simprocAttr,decide_eq_true_eq,decide_eq_false_iff_not,Bool.not_eq_true,Bool.not_eq_false,Int.not_lt,Int.not_le] at hb
          repeat' (first | refine wz1 ?_ | refine wz2 ?_ | refine wz3 ?_ | refine wz4 ?_ | refine wz5 ?_ | refine wz6 ?_ | simp -dsimp (maxSteps:=999999) (disch:=omega) only[go_sem,simprocAttr, *])
          refine wz7 (fun hb => ?_) (fun hb => ?_) <;> try simp -dsimp (maxSteps:=999999) (disch:=omega) only[go_sem,simprocAttr,decide_eq_true_eq,decide_eq_false_iff_not,Bool.not_eq_true,Bool.not_eq_false,Int.not_lt,Int.not_le] at hb
          repeat' (first | refine wz1 ?_ | refine wz2 ?_ | refine wz3 ?_ | refine wz4 ?_ | refine wz5 ?_ | refine wz6 ?_ | simp -dsimp (maxSteps:=999999) (disch:=omega) only[go_sem,simprocAttr, *])
          refine wz7 (fun hb => ?_) (fun hb => ?_) <;> try simp -dsimp (maxSteps:=999999) (disch:=omega) only[go_sem,simprocAttr,decide_eq_true_eq,decide_eq_false_iff_not,Bool.not_eq_true,Bool.not_eq_false,Int.not_lt,Int.not_le] at hb
          repeat' (first | refine wz1 ?_ | refine wz2 ?_ | refine wz3 ?_ | refine wz4 ?_ | refine wz5 ?_ | refine wz6 ?_ | simp -dsimp (maxSteps:=999999) (disch:=omega) only[go_sem,simprocAttr, *])
          refine wpB_loop (fun e Hx => ∃ (j : Nat) (M : List Bool), j ≤ l.length ∧ M.length = w.length + 1 ∧ St H Hx m q (rxD (.mk 3 s l)) fl ∧ hget Hx (m + 1) = .arr (bsD M) ∧ e 1 = isD w ∧ e 2 = .vec q 0 (w.length + 1) ∧ e 3 = .ptr m 0 0 ∧ e 7 = .vec (m + 1) 0 (w.length + 1) ∧ e 12 = .int .i64 j ∧ endsAlt w l fl (List.replicate (w.length + 1) false) = endsAlt w (l.drop j) fl M) (fun e H => l.length - natOf (e 12)) ?_ ?_
          · exact ⟨0, List.replicate (w.length + 1) false, by omega, by simp, hst, hout, by simp -dsimp (maxSteps:=999999) (disch:=omega) only[go_sem,simprocAttr, *,isD], gs, gs, gs, rfl, by simp⟩
          · clear hst hout hrx
            rintro e Hx ⟨j, M, hj, hM, hst, hout, e1, e2, e3, e7, e12, ha⟩ R2 hR2
            have hrx := hst.rx
            repeat' (first | refine wz1 ?_ | refine wz2 ?_ | refine wz3 ?_ | refine wz4 ?_ | refine wz5 ?_ | refine wz6 ?_ | simp -dsimp (maxSteps:=999999) (disch:=omega) only[go_sem,simprocAttr, *])
            refine wz7 (fun hb2 => ?_) (fun hb2 => ?_) <;> try simp -dsimp (maxSteps:=999999) (disch:=omega) only[go_sem,simprocAttr,decide_eq_true_eq,decide_eq_false_iff_not,Bool.not_eq_true,Bool.not_eq_false,Int.not_lt,Int.not_le] at hb2
            · rw [List.drop_eq_getElem_cons hb2] at ha
              simp only [endsAlt] at ha
              have hsj : shapesR l[j] = true := hsk _ (List.getElem_mem hb2)
              repeat' (first | refine wz1 ?_ | refine wz2 ?_ | refine wz3 ?_ | refine wz4 ?_ | refine wz5 ?_ | refine wz6 ?_ | simp -dsimp (maxSteps:=999999) (disch:=omega) only[go_sem,simprocAttr, *])
              refine evB_state bo26 rfl rfl (ih l[j] (okL_get hok _ (List.getElem_mem hb2)) (hkid _ (List.getElem_mem hb2)) hsj fl hfl Hx q hst.fr) ?_ (fun _ _ h => h.elim)
              rintro _ Hy ⟨hsame, p', hp', rfl, hX⟩
              have hXl := ends_len w l[j] fl hfl
              generalize endsR w l[j] fl = X at *
              have hlx := lt_of_hget hout
              have hst2 := hst.call hsame
              have hout2 : hget Hy (m + 1) = .arr (bsD M) := by rw [hsame.2 _ hlx]; exact hout
              clear hst hout hrx
              simp -dsimp (maxSteps:=999999) (disch:=omega) only[go_sem,simprocAttr, *]
              repeat' (first | refine wz1 ?_ | refine wz2 ?_ | refine wz3 ?_ | refine wz4 ?_ | refine wz5 ?_ | refine wz6 ?_ | simp -dsimp (maxSteps:=999999) (disch:=omega) only[go_sem,simprocAttr, *])
              refine wpB_loop (fun e Hx => ∃ (i : Nat), i ≤ w.length + 1 ∧ St H Hx m q (rxD (.mk 3 s l)) fl ∧ hget Hx (m + 1) = .arr (bsD (orL M X i)) ∧ hget Hx p' = .arr (bsD X) ∧ e 1 = isD w ∧ e 2 = .vec q 0 (w.length + 1) ∧ e 3 = .ptr m 0 0 ∧ e 7 = .vec (m + 1) 0 (w.length + 1) ∧ e 12 = .int .i64 j ∧ e 13 = .vec p' 0 (w.length + 1) ∧ e 14 = .int .i64 i) (fun e H => w.length + 1 - natOf (e 14)) ?_ ?_
              · exact ⟨0, by omega, hst2, by rw [orL_zero]; exact hout2, hX, gs, gs, gs, gs, gs, gs, rfl⟩
              · clear hst2 hout2 hX
                rintro e Hz ⟨i, hi, hst, hout, hX, e1, e2, e3, e7, e12, e13, e14⟩ R3 hR3
                have hOl := orL_len hM hXl hi
                have hv1 := vs_bools hout (by omega)
                have hv2 := vs_bools hX (by omega)
                repeat' (first | refine wz1 ?_ | refine wz2 ?_ | refine wz3 ?_ | refine wz4 ?_ | refine wz5 ?_ | refine wz6 ?_ | simp -dsimp (maxSteps:=999999) (disch:=omega) only[go_sem,simprocAttr, *])
                refine wz7 (fun hb3 => ?_) (fun hb3 => ?_) <;> try simp -dsimp (maxSteps:=999999) (disch:=omega) only[go_sem,simprocAttr,decide_eq_true_eq,decide_eq_false_iff_not,Bool.not_eq_true,Bool.not_eq_false,Int.not_lt,Int.not_le] at hb3
                · have hy := bs_at (l := X) (i := i) (by omega)
                  have hz : (bsD (orL M X i))[i]? = some (.bool M[i]) := by simp [bsD, orL_at hM hXl (show i < w.length + 1 by omega)]
                  have hnext := orL_next hM hXl (show i < w.length + 1 by omega)
                  have hne : m + 1 ≠ p' := by omega
                  cases hMi : M[i] with
                  | true =>
                    rw [hMi] at hz hnext
                    rw [Bool.true_or] at hnext
                    repeat' (first | refine wz1 ?_ | refine wz2 ?_ | refine wz3 ?_ | refine wz4 ?_ | refine wz5 ?_ | refine wz6 ?_ | simp -dsimp (maxSteps:=999999) (disch:=omega) only[go_sem,simprocAttr, *])
                    refine hR3 _ _ ⟨i + 1, by omega, hst.set (by omega), by rw [hnext, ← bs_set]; exact hget_set_eq (lt_of_hget hout), by rw [hget_set_ne hne]; exact hX, gs, gs, gs, gs, gs, gs, gs⟩ ?_
                    simp -dsimp (maxSteps:=999999) (disch:=omega) only[go_sem,simprocAttr, *,natOf_int]
                  | false =>
                    rw [hMi] at hz hnext
                    rw [Bool.false_or] at hnext
                    repeat' (first | refine wz1 ?_ | refine wz2 ?_ | refine wz3 ?_ | refine wz4 ?_ | refine wz5 ?_ | refine wz6 ?_ | simp -dsimp (maxSteps:=999999) (disch:=omega) only[go_sem,simprocAttr, *])
                    refine hR3 _ _ ⟨i + 1, by omega, hst.set (by omega), by rw [hnext, ← bs_set]; exact hget_set_eq (lt_of_hget hout), by rw [hget_set_ne hne]; exact hX, gs, gs, gs, gs, gs, gs, gs⟩ ?_
                    simp -dsimp (maxSteps:=999999) (disch:=omega) only[go_sem,simprocAttr, *,natOf_int]
                · have hii : i = w.length + 1 := by omega
                  subst hii
                  rw [orL_end hM hXl] at hout
                  repeat' (first | refine wz1 ?_ | refine wz2 ?_ | refine wz3 ?_ | refine wz4 ?_ | refine wz5 ?_ | refine wz6 ?_ | simp -dsimp (maxSteps:=999999) (disch:=omega) only[go_sem,simprocAttr, *])
                  refine hR2 _ _ ⟨j + 1, _, by omega, orB_len hM hXl, hst, hout, gs, gs, gs, gs, gs, ha⟩ ?_
                  simp -dsimp (maxSteps:=999999) (disch:=omega) only[go_sem,simprocAttr, *,natOf_int]
            · rw [List.drop_eq_nil_of_le (by omega)] at ha
              simp only [endsAlt] at ha
              rw [ha] at hR
              repeat' (first | refine wz1 ?_ | refine wz2 ?_ | refine wz3 ?_ | refine wz4 ?_ | refine wz5 ?_ | refine wz6 ?_ | simp -dsimp (maxSteps:=999999) (disch:=omega) only[go_sem,simprocAttr, *])
              exact hR _ _ ⟨m + 1, by omega, gs, hout, hst.same⟩
        by_cases hK : k = 4
        · subst hK
          obtain ⟨kid, rfl⟩ : ∃ kid, l = [kid] := by
            simp only [shapesR, Bool.and_eq_true] at hs
            have := hs.1
            simp [shape1] at this
            exact List.length_eq_one_iff.1 this.1
          have he : endsR w (.mk 4 s [kid]) fl = roundsB (endsR w kid) false (w.length + 1) fl := by simp [endsR, endsOne]
          rw [he] at hR
          generalize hG : roundsB (endsR w kid) false (w.length + 1) fl = G at hR
          have hsj : shapesR kid = true := hsk _ (by simp)
          have hkd := hkid kid (by simp)
          have hok1 := okL_get hok kid (by simp)
          have hdR := fun x (hx : x.length = w.length + 1) => ends_len w kid x hx
          repeat' (first | refine wz1 ?_ | refine wz2 ?_ | refine wz3 ?_ | refine wz4 ?_ | refine wz5 ?_ | refine wz6 ?_ | simp -dsimp (maxSteps:=999999) (disch:=omega) only[go_sem,simprocAttr, *])
          refine wz7 (fun hb => ?_) (fun hb => ?_) <;> try simp -dsimp (maxSteps:=999999) (disch:=omega) only[go_sem,simprocAttr,decide_eq_true_eq,decide_eq_false_iff_not,Bool.not_eq_true,Bool.not_eq_false,Int.not_lt,Int.not_le] at hb
          repeat' (first | refine wz1 ?_ | refine wz2 ?_ | refine wz3 ?_ | refine wz4 ?_ | refine wz5 ?_ | refine wz6 ?_ | simp -dsimp (maxSteps:=999999) (disch:=omega) only[go_sem,simprocAttr, *])
          refine wz7 (fun hb => ?_) (fun hb => ?_) <;> try simp -dsimp (maxSteps:=999999) (disch:=omega) only[go_sem,simprocAttr,decide_eq_true_eq,decide_eq_false_iff_not,Bool.not_eq_true,Bool.not_eq_false,Int.not_lt,Int.not_le] at hb
          repeat' (first | refine wz1 ?_ | refine wz2 ?_ | refine wz3 ?_ | refine wz4 ?_ | refine wz5 ?_ | refine wz6 ?_ | simp -dsimp (maxSteps:=999999) (disch:=omega) only[go_sem,simprocAttr, *])
          refine wz7 (fun hb => ?_) (fun hb => ?_) <;> try simp -dsimp (maxSteps:=999999) (disch:=omega) only[go_sem,simprocAttr,decide_eq_true_eq,decide_eq_false_iff_not,Bool.not_eq_true,Bool.not_eq_false,Int.not_lt,Int.not_le] at hb
          repeat' (first | refine wz1 ?_ | refine wz2 ?_ | refine wz3 ?_ | refine wz4 ?_ | refine wz5 ?_ | refine wz6 ?_ | simp -dsimp (maxSteps:=999999) (disch:=omega) only[go_sem,simprocAttr, *])
          refine wz7 (fun hb => ?_) (fun hb => ?_) <;> try simp -dsimp (maxSteps:=999999) (disch:=omega) only[go_sem,simprocAttr,decide_eq_true_eq,decide_eq_false_iff_not,Bool.not_eq_true,Bool.not_eq_false,Int.not_lt,Int.not_le] at hb
          repeat' (first | refine wz1 ?_ | refine wz2 ?_ | refine wz3 ?_ | refine wz4 ?_ | refine wz5 ?_ | refine wz6 ?_ | simp -dsimp (maxSteps:=999999) (disch:=omega) only[go_sem,simprocAttr, *])
          refine wz7 (fun hb => ?_) (fun hb => ?_) <;> try simp -dsimp (maxSteps:=999999) (disch:=omega) only[go_sem,simprocAttr,decide_eq_true_eq,decide_eq_false_iff_not,Bool.not_eq_true,Bool.not_eq_false,Int.not_lt,Int.not_le] at hb
          repeat' (first | refine wz1 ?_ | refine wz2 ?_ | refine wz3 ?_ | refine wz4 ?_ | refine wz5 ?_ | refine wz6 ?_ | simp -dsimp (maxSteps:=999999) (disch:=omega) only[go_sem,simprocAttr, *])
          refine wz7 (fun hb => ?_) (fun hb => ?_) <;> try simp -dsimp (maxSteps:=999999) (disch:=omega) only[go_sem,simprocAttr,decide_eq_true_eq,decide_eq_false_iff_not,Bool.not_eq_true,Bool.not_eq_false,Int.not_lt,Int.not_le] at hb
          repeat' (first | refine wz1 ?_ | refine wz2 ?_ | refine wz3 ?_ | refine wz4 ?_ | refine wz5 ?_ | refine wz6 ?_ | simp -dsimp (maxSteps:=999999) (disch:=omega) only[go_sem,simprocAttr, *])
          refine wpB_loop (fun e Hx => ∃ (j : Nat) (L : List Bool), j ≤ w.length + 1 ∧ L.length = w.length + 1 ∧ L.take j = fl.take j ∧ St H Hx m q (rxD (.mk 4 s [kid])) fl ∧ hget Hx (m + 1) = .arr (bsD L) ∧ e 1 = isD w ∧ e 2 = .vec q 0 (w.length + 1) ∧ e 3 = .ptr m 0 0 ∧ e 7 = .vec (m + 1) 0 (w.length + 1) ∧ e 15 = .int .i64 j) (fun e H => w.length + 1 - natOf (e 15)) ?_ ?_
          · exact ⟨0, List.replicate (w.length + 1) false, by omega, by simp, rfl, hst, hout, by simp -dsimp (maxSteps:=999999) (disch:=omega) only[go_sem,simprocAttr, *,isD], gs, gs, gs, rfl⟩
          · clear hst hout
            rintro e Hx ⟨j, L, hj, hL, htk, hst, hout, e1, e2, e3, e7, e15⟩ R2 hR2
            have hv1 := vs_bools hout (by omega)
            have hv2 := vs_bools hst.fr (by omega)
            have hfr := hst.fr
            repeat' (first | refine wz1 ?_ | refine wz2 ?_ | refine wz3 ?_ | refine wz4 ?_ | refine wz5 ?_ | refine wz6 ?_ | simp -dsimp (maxSteps:=999999) (disch:=omega) only[go_sem,simprocAttr, *])
            refine wz7 (fun hb2 => ?_) (fun hb2 => ?_) <;> try simp -dsimp (maxSteps:=999999) (disch:=omega) only[go_sem,simprocAttr,decide_eq_true_eq,decide_eq_false_iff_not,Bool.not_eq_true,Bool.not_eq_false,Int.not_lt,Int.not_le] at hb2
            · have hlt : j < w.length + 1 := by omega
              have hx := bs_at (l := fl) (i := j) (by omega)
              have hy := bs_at (l := L) (i := j) (by omega)
              repeat' (first | refine wz1 ?_ | refine wz2 ?_ | refine wz3 ?_ | refine wz4 ?_ | refine wz5 ?_ | refine wz6 ?_ | simp -dsimp (maxSteps:=999999) (disch:=omega) only[go_sem,simprocAttr, *])
              refine hR2 _ _ ⟨j + 1, L.set j fl[j], by omega, by simp [hL], take_set (by omega) htk (List.getElem?_eq_getElem (by omega)), ?_, ?_, gs, gs, gs, gs, gs⟩ ?_
              · exact hst.set (by omega)
              · rw [bs_set]; exact hget_set_eq (lt_of_hget hout)
              · simp -dsimp (maxSteps:=999999) (disch:=omega) only[go_sem,simprocAttr, *,natOf_int]
            · rw [List.take_of_length_le (by omega), List.take_of_length_le (by omega)] at htk
              subst htk
              clear hR2 hv1 hv2 hfr hb2
              have hrx := hst.rx
              repeat' (first | refine wz1 ?_ | refine wz2 ?_ | refine wz3 ?_ | refine wz4 ?_ | refine wz5 ?_ | refine wz6 ?_ | simp -dsimp (maxSteps:=999999) (disch:=omega) only[go_sem,simprocAttr, *])
              refine wpB_loop (fun e Hx => ∃ (t : Nat) (M : List Bool), t ≤ w.length + 1 ∧ M.length = w.length + 1 ∧ St H Hx m q (rxD (.mk 4 s [kid])) L ∧ hget Hx (m + 1) = .arr (bsD M) ∧ e 1 = isD w ∧ e 3 = .ptr m 0 0 ∧ e 7 = .vec (m + 1) 0 (w.length + 1) ∧ e 16 = .int .i64 t ∧ G = roundsB (endsR w kid) false (w.length + 1 - t) M) (fun e H => w.length + 1 - natOf (e 16)) ?_ ?_
              · exact ⟨0, L, by omega, hL, hst, hout, gs, gs, gs, rfl, hG.symm⟩
              · clear hst hout hrx hj
                rintro e Hx ⟨t, M, ht, hM, hst, hout, e1, e3, e7, e16, ha⟩ R2 hR2
                have hrx := hst.rx
                repeat' (first | refine wz1 ?_ | refine wz2 ?_ | refine wz3 ?_ | refine wz4 ?_ | refine wz5 ?_ | refine wz6 ?_ | simp -dsimp (maxSteps:=999999) (disch:=omega) only[go_sem,simprocAttr, *])
                refine wz7 (fun hb2 => ?_) (fun hb2 => ?_) <;> try simp -dsimp (maxSteps:=999999) (disch:=omega) only[go_sem,simprocAttr,decide_eq_true_eq,decide_eq_false_iff_not,Bool.not_eq_true,Bool.not_eq_false,Int.not_lt,Int.not_le] at hb2
                · rw [show w.length + 1 - t = (w.length - t) + 1 by omega] at ha
                  simp only [roundsB] at ha
                  repeat' (first | refine wz1 ?_ | refine wz2 ?_ | refine wz3 ?_ | refine wz4 ?_ | refine wz5 ?_ | refine wz6 ?_ | simp -dsimp (maxSteps:=999999) (disch:=omega) only[go_sem,simprocAttr, *])
                  refine evB_state bo26 rfl rfl (ih kid hok1 hkd hsj M hM Hx (m + 1) hout) ?_ (fun _ _ h => h.elim)
                  rintro _ Hy ⟨hsame, p', hp', rfl, hX⟩
                  have hXl := ends_len w kid M hM
                  generalize endsR w kid M = X at ha hX hXl
                  have hlx := lt_of_hget hout
                  have hst2 := hst.call hsame
                  have hout2 : hget Hy (m + 1) = .arr (bsD M) := by rw [hsame.2 _ hlx]; exact hout
                  clear hst hout hrx
                  simp -dsimp (maxSteps:=999999) (disch:=omega) only[go_sem,simprocAttr, *]
                  repeat' (first | refine wz1 ?_ | refine wz2 ?_ | refine wz3 ?_ | refine wz4 ?_ | refine wz5 ?_ | refine wz6 ?_ | simp -dsimp (maxSteps:=999999) (disch:=omega) only[go_sem,simprocAttr, *])
                  refine wpB_loop (fun e Hx => ∃ (i : Nat), i ≤ w.length + 1 ∧ St H Hx m q (rxD (.mk 4 s [kid])) L ∧ hget Hx (m + 1) = .arr (bsD (orL M X i)) ∧ hget Hx p' = .arr (bsD X) ∧ e 1 = isD w ∧ e 3 = .ptr m 0 0 ∧ e 7 = .vec (m + 1) 0 (w.length + 1) ∧ e 16 = .int .i64 t ∧ e 17 = .vec p' 0 (w.length + 1) ∧ e 18 = .bool (moreL M X i) ∧ e 19 = .int .i64 i) (fun e H => w.length + 1 - natOf (e 19)) ?_ ?_
                  · exact ⟨0, by omega, hst2, by rw [orL_zero]; exact hout2, hX, gs, gs, gs, gs, gs, by simp -dsimp (maxSteps:=999999) (disch:=omega) only[go_sem,simprocAttr, *]; try rfl, rfl⟩
                  · clear hst2 hout2 hX
                    rintro e Hz ⟨i, hi, hst, hout, hX, e1, e3, e7, e16, e17, e18, e19⟩ R3 hR3
                    have hOl := orL_len hM hXl hi
                    have hv1 := vs_bools hout (by omega)
                    have hv2 := vs_bools hX (by omega)
                    repeat' (first | refine wz1 ?_ | refine wz2 ?_ | refine wz3 ?_ | refine wz4 ?_ | refine wz5 ?_ | refine wz6 ?_ | simp -dsimp (maxSteps:=999999) (disch:=omega) only[go_sem,simprocAttr, *])
                    refine wz7 (fun hb3 => ?_) (fun hb3 => ?_) <;> try simp -dsimp (maxSteps:=999999) (disch:=omega) only[go_sem,simprocAttr,decide_eq_true_eq,decide_eq_false_iff_not,Bool.not_eq_true,Bool.not_eq_false,Int.not_lt,Int.not_le] at hb3
                    · have hy := bs_at (l := X) (i := i) (by omega)
                      have hz : (bsD (orL M X i))[i]? = some (.bool M[i]) := by simp [bsD, orL_at hM hXl (show i < w.length + 1 by omega)]
                      have hnext := orL_next hM hXl (show i < w.length + 1 by omega)
                      have hmore : moreL M X (i + 1) = (moreL M X i || (X[i] && !M[i])) := by simp [moreL, List.getD, show i < X.length by omega, show i < M.length by omega]
                      have hne : m + 1 ≠ p' := by omega
                      generalize moreL M X i = c at *
                      cases c <;> cases hXi : X[i] <;> cases hMi : M[i] <;>
                      (rw [hXi] at hy hnext hmore
                       rw [hMi] at hz hnext hmore
                       simp only [Bool.true_or, Bool.false_or, Bool.or_true, Bool.or_false, Bool.true_and, Bool.false_and, Bool.and_true, Bool.and_false, Bool.not_true, Bool.not_false] at hnext hmore
                       repeat' (first | refine wz1 ?_ | refine wz2 ?_ | refine wz3 ?_ | refine wz4 ?_ | refine wz5 ?_ | refine wz6 ?_ | simp -dsimp (maxSteps:=999999) (disch:=omega) only[go_sem,simprocAttr, *])
                       refine hR3 _ _ ⟨i + 1, by omega, hst.set (by omega), by rw [hnext, ← bs_set]; exact hget_set_eq (lt_of_hget hout), by rw [hget_set_ne hne]; exact hX, gs, gs, gs, gs, gs, gs, gs⟩ ?_
                       simp -dsimp (maxSteps:=999999) (disch:=omega) only[go_sem,simprocAttr, *,natOf_int])
                    · have hii : i = w.length + 1 := by omega
                      subst hii
                      rw [orL_end hM hXl] at hout
                      have hrx := hst.rx
                      cases hmr : moreL M X (w.length + 1) with
                      | true =>
                        have hne : orB M X ≠ M := fun h => by rw [(more_same hM hXl).2 h] at hmr; cases hmr
                        rw [hmr] at e18
                        rw [if_neg (fun h => h.elim (fun h => by cases h) hne)] at ha
                        repeat' (first | refine wz1 ?_ | refine wz2 ?_ | refine wz3 ?_ | refine wz4 ?_ | refine wz5 ?_ | refine wz6 ?_ | simp -dsimp (maxSteps:=999999) (disch:=omega) only[go_sem,simprocAttr, *])
                        refine wz7 (fun hb4 => ?_) (fun hb4 => ?_) <;> try simp -dsimp (maxSteps:=999999) (disch:=omega) only[go_sem,simprocAttr,decide_eq_true_eq,decide_eq_false_iff_not,Bool.not_eq_true,Bool.not_eq_false,Int.not_lt,Int.not_le] at hb4
                        repeat' (first | refine wz1 ?_ | refine wz2 ?_ | refine wz3 ?_ | refine wz4 ?_ | refine wz5 ?_ | refine wz6 ?_ | simp -dsimp (maxSteps:=999999) (disch:=omega) only[go_sem,simprocAttr, *])
                        refine hR2 _ _ ⟨t + 1, orB M X, by omega, orB_len hM hXl, hst, hout, gs, gs, gs, gs, by rw [show w.length + 1 - (t + 1) = w.length - t by omega]; exact ha⟩ ?_
                        simp -dsimp (maxSteps:=999999) (disch:=omega) only[go_sem,simprocAttr, *,natOf_int]
                      | false =>
                        have heq : orB M X = M := (more_same hM hXl).1 hmr
                        rw [hmr] at e18
                        rw [if_pos (.inr heq)] at ha
                        rw [ha] at hR
                        repeat' (first | refine wz1 ?_ | refine wz2 ?_ | refine wz3 ?_ | refine wz4 ?_ | refine wz5 ?_ | refine wz6 ?_ | simp -dsimp (maxSteps:=999999) (disch:=omega) only[go_sem,simprocAttr, *])
                        refine wz7 (fun hb4 => ?_) (fun hb4 => ?_) <;> try simp -dsimp (maxSteps:=999999) (disch:=omega) only[go_sem,simprocAttr,decide_eq_true_eq,decide_eq_false_iff_not,Bool.not_eq_true,Bool.not_eq_false,Int.not_lt,Int.not_le] at hb4
                        repeat' (first | refine wz1 ?_ | refine wz2 ?_ | refine wz3 ?_ | refine wz4 ?_ | refine wz5 ?_ | refine wz6 ?_ | simp -dsimp (maxSteps:=999999) (disch:=omega) only[go_sem,simprocAttr, *])
                        exact hR _ _ ⟨m + 1, by omega, gs, hout, hst.same⟩
                · rw [show w.length + 1 - t = 0 by omega] at ha
                  simp only [roundsB] at ha
                  rw [ha] at hR
                  repeat' (first | refine wz1 ?_ | refine wz2 ?_ | refine wz3 ?_ | refine wz4 ?_ | refine wz5 ?_ | refine wz6 ?_ | simp -dsimp (maxSteps:=999999) (disch:=omega) only[go_sem,simprocAttr, *])
                  exact hR _ _ ⟨m + 1, by omega, gs, hout, hst.same⟩
        by_cases hL : k = 5
        · subst hL
          obtain ⟨kid, rfl⟩ : ∃ kid, l = [kid] := by
            simp only [shapesR, Bool.and_eq_true] at hs
            have := hs.1
            simp [shape1] at this
            exact List.length_eq_one_iff.1 this.1
          have he : endsR w (.mk 5 s [kid]) fl = roundsB (endsR w kid) true (w.length + 1) fl := by simp [endsR, endsOne]
          rw [he] at hR
          generalize hG : roundsB (endsR w kid) true (w.length + 1) fl = G at hR
          have hsj : shapesR kid = true := hsk _ (by simp)
          have hkd := hkid kid (by simp)
          have hok1 := okL_get hok kid (by simp)
          have hdR := fun x (hx : x.length = w.length + 1) => ends_len w kid x hx
          repeat' (first | refine wz1 ?_ | refine wz2 ?_ | refine wz3 ?_ | refine wz4 ?_ | refine wz5 ?_ | refine wz6 ?_ | simp -dsimp (maxSteps:=999999) (disch:=omega) only[go_sem,simprocAttr, *])
          refine wz7 (fun hb => ?_) (fun hb => ?_) <;> try simp -dsimp (maxSteps:=999999) (disch:=omega) only[go_sem,simprocAttr,decide_eq_true_eq,decide_eq_false_iff_not,Bool.not_eq_true,Bool.not_eq_false,Int.not_lt,Int.not_le] at hb
          repeat' (first | refine wz1 ?_ | refine wz2 ?_ | refine wz3 ?_ | refine wz4 ?_ | refine wz5 ?_ | refine wz6 ?_ | simp -dsimp (maxSteps:=999999) (disch:=omega) only[go_sem,simprocAttr, *])
          refine wz7 (fun hb => ?_) (fun hb => ?_) <;> try simp -dsimp (maxSteps:=999999) (disch:=omega) only[go_sem,simprocAttr,decide_eq_true_eq,decide_eq_false_iff_not,Bool.not_eq_true,Bool.not_eq_false,Int.not_lt,Int.not_le] at hb
          repeat' (first | refine wz1 ?_ | refine wz2 ?_ | refine wz3 ?_ | refine wz4 ?_ | refine wz5 ?_ | refine wz6 ?_ | simp -dsimp (maxSteps:=999999) (disch:=omega) only[go_sem,simprocAttr, *])
          refine wz7 (fun hb => ?_) (fun hb => ?_) <;> try simp -dsimp (maxSteps:=999999) (disch:=omega) only[go_sem,simprocAttr,decide_eq_true_eq,decide_eq_false_iff_not,Bool.not_eq_true,Bool.not_eq_false,Int.not_lt,Int.not_le] at hb
          repeat' (first | refine wz1 ?_ | refine wz2 ?_ | refine wz3 ?_ | refine wz4 ?_ | refine wz5 ?_ | refine wz6 ?_ | simp -dsimp (maxSteps:=999999) (disch:=omega) only[go_sem,simprocAttr, *])
          refine wz7 (fun hb => ?_) (fun hb => ?_) <;> try simp -dsimp (maxSteps:=999999) (disch:=omega) only[go_sem,simprocAttr,decide_eq_true_eq,decide_eq_false_iff_not,Bool.not_eq_true,Bool.not_eq_false,Int.not_lt,Int.not_le] at hb
          repeat' (first | refine wz1 ?_ | refine wz2 ?_ | refine wz3 ?_ | refine wz4 ?_ | refine wz5 ?_ | refine wz6 ?_ | simp -dsimp (maxSteps:=999999) (disch:=omega) only[go_sem,simprocAttr, *])
          refine wz7 (fun hb => ?_) (fun hb => ?_) <;> try simp -dsimp (maxSteps:=999999) (disch:=omega) only[go_sem,simprocAttr,decide_eq_true_eq,decide_eq_false_iff_not,Bool.not_eq_true,Bool.not_eq_false,Int.not_lt,Int.not_le] at hb
          repeat' (first | refine wz1 ?_ | refine wz2 ?_ | refine wz3 ?_ | refine wz4 ?_ | refine wz5 ?_ | refine wz6 ?_ | simp -dsimp (maxSteps:=999999) (disch:=omega) only[go_sem,simprocAttr, *])
          refine wz7 (fun hb => ?_) (fun hb => ?_) <;> try simp -dsimp (maxSteps:=999999) (disch:=omega) only[go_sem,simprocAttr,decide_eq_true_eq,decide_eq_false_iff_not,Bool.not_eq_true,Bool.not_eq_false,Int.not_lt,Int.not_le] at hb
          repeat' (first | refine wz1 ?_ | refine wz2 ?_ | refine wz3 ?_ | refine wz4 ?_ | refine wz5 ?_ | refine wz6 ?_ | simp -dsimp (maxSteps:=999999) (disch:=omega) only[go_sem,simprocAttr, *])
          refine wpB_loop (fun e Hx => ∃ (j : Nat) (L : List Bool), j ≤ w.length + 1 ∧ L.length = w.length + 1 ∧ L.take j = fl.take j ∧ St H Hx m q (rxD (.mk 5 s [kid])) fl ∧ hget Hx (m + 1) = .arr (bsD L) ∧ e 1 = isD w ∧ e 2 = .vec q 0 (w.length + 1) ∧ e 3 = .ptr m 0 0 ∧ e 7 = .vec (m + 1) 0 (w.length + 1) ∧ e 15 = .int .i64 j) (fun e H => w.length + 1 - natOf (e 15)) ?_ ?_
          · exact ⟨0, List.replicate (w.length + 1) false, by omega, by simp, rfl, hst, hout, by simp -dsimp (maxSteps:=999999) (disch:=omega) only[go_sem,simprocAttr, *,isD], gs, gs, gs, rfl⟩
          · clear hst hout
            rintro e Hx ⟨j, L, hj, hL, htk, hst, hout, e1, e2, e3, e7, e15⟩ R2 hR2
            have hv1 := vs_bools hout (by omega)
            have hv2 := vs_bools hst.fr (by omega)
            have hfr := hst.fr
            repeat' (first | refine wz1 ?_ | refine wz2 ?_ | refine wz3 ?_ | refine wz4 ?_ | refine wz5 ?_ | refine wz6 ?_ | simp -dsimp (maxSteps:=999999) (disch:=omega) only[go_sem,simprocAttr, *])
            refine wz7 (fun hb2 => ?_) (fun hb2 => ?_) <;> try simp -dsimp (maxSteps:=999999) (disch:=omega) only[go_sem,simprocAttr,decide_eq_true_eq,decide_eq_false_iff_not,Bool.not_eq_true,Bool.not_eq_false,Int.not_lt,Int.not_le] at hb2
            · have hlt : j < w.length + 1 := by omega
              have hx := bs_at (l := fl) (i := j) (by omega)
              have hy := bs_at (l := L) (i := j) (by omega)
              repeat' (first | refine wz1 ?_ | refine wz2 ?_ | refine wz3 ?_ | refine wz4 ?_ | refine wz5 ?_ | refine wz6 ?_ | simp -dsimp (maxSteps:=999999) (disch:=omega) only[go_sem,simprocAttr, *])
              refine hR2 _ _ ⟨j + 1, L.set j fl[j], by omega, by simp [hL], take_set (by omega) htk (List.getElem?_eq_getElem (by omega)), ?_, ?_, gs, gs, gs, gs, gs⟩ ?_
              · exact hst.set (by omega)
              · rw [bs_set]; exact hget_set_eq (lt_of_hget hout)
              · simp -dsimp (maxSteps:=999999) (disch:=omega) only[go_sem,simprocAttr, *,natOf_int]
            · rw [List.take_of_length_le (by omega), List.take_of_length_le (by omega)] at htk
              subst htk
              clear hR2 hv1 hv2 hfr hb2
              have hrx := hst.rx
              repeat' (first | refine wz1 ?_ | refine wz2 ?_ | refine wz3 ?_ | refine wz4 ?_ | refine wz5 ?_ | refine wz6 ?_ | simp -dsimp (maxSteps:=999999) (disch:=omega) only[go_sem,simprocAttr, *])
              refine wpB_loop (fun e Hx => ∃ (t : Nat) (M : List Bool), t ≤ w.length + 1 ∧ M.length = w.length + 1 ∧ St H Hx m q (rxD (.mk 5 s [kid])) L ∧ hget Hx (m + 1) = .arr (bsD M) ∧ e 1 = isD w ∧ e 3 = .ptr m 0 0 ∧ e 7 = .vec (m + 1) 0 (w.length + 1) ∧ e 16 = .int .i64 t ∧ G = roundsB (endsR w kid) true (w.length + 1 - t) M) (fun e H => w.length + 1 - natOf (e 16)) ?_ ?_
              · exact ⟨0, L, by omega, hL, hst, hout, gs, gs, gs, rfl, hG.symm⟩
              · clear hst hout hrx hj
                rintro e Hx ⟨t, M, ht, hM, hst, hout, e1, e3, e7, e16, ha⟩ R2 hR2
                have hrx := hst.rx
                repeat' (first | refine wz1 ?_ | refine wz2 ?_ | refine wz3 ?_ | refine wz4 ?_ | refine wz5 ?_ | refine wz6 ?_ | simp -dsimp (maxSteps:=999999) (disch:=omega) only[go_sem,simprocAttr, *])
                refine wz7 (fun hb2 => ?_) (fun hb2 => ?_) <;> try simp -dsimp (maxSteps:=999999) (disch:=omega) only[go_sem,simprocAttr,decide_eq_true_eq,decide_eq_false_iff_not,Bool.not_eq_true,Bool.not_eq_false,Int.not_lt,Int.not_le] at hb2
                · rw [show w.length + 1 - t = (w.length - t) + 1 by omega] at ha
                  simp only [roundsB] at ha
                  repeat' (first | refine wz1 ?_ | refine wz2 ?_ | refine wz3 ?_ | refine wz4 ?_ | refine wz5 ?_ | refine wz6 ?_ | simp -dsimp (maxSteps:=999999) (disch:=omega) only[go_sem,simprocAttr, *])
                  refine evB_state bo26 rfl rfl (ih kid hok1 hkd hsj M hM Hx (m + 1) hout) ?_ (fun _ _ h => h.elim)
                  rintro _ Hy ⟨hsame, p', hp', rfl, hX⟩
                  have hXl := ends_len w kid M hM
                  generalize endsR w kid M = X at ha hX hXl
                  have hlx := lt_of_hget hout
                  have hst2 := hst.call hsame
                  have hout2 : hget Hy (m + 1) = .arr (bsD M) := by rw [hsame.2 _ hlx]; exact hout
                  clear hst hout hrx
                  simp -dsimp (maxSteps:=999999) (disch:=omega) only[go_sem,simprocAttr, *]
                  repeat' (first | refine wz1 ?_ | refine wz2 ?_ | refine wz3 ?_ | refine wz4 ?_ | refine wz5 ?_ | refine wz6 ?_ | simp -dsimp (maxSteps:=999999) (disch:=omega) only[go_sem,simprocAttr, *])
                  refine wpB_loop (fun e Hx => ∃ (i : Nat), i ≤ w.length + 1 ∧ St H Hx m q (rxD (.mk 5 s [kid])) L ∧ hget Hx (m + 1) = .arr (bsD (orL M X i)) ∧ hget Hx p' = .arr (bsD X) ∧ e 1 = isD w ∧ e 3 = .ptr m 0 0 ∧ e 7 = .vec (m + 1) 0 (w.length + 1) ∧ e 16 = .int .i64 t ∧ e 17 = .vec p' 0 (w.length + 1) ∧ e 18 = .bool (moreL M X i) ∧ e 19 = .int .i64 i) (fun e H => w.length + 1 - natOf (e 19)) ?_ ?_
                  · exact ⟨0, by omega, hst2, by rw [orL_zero]; exact hout2, hX, gs, gs, gs, gs, gs, by simp -dsimp (maxSteps:=999999) (disch:=omega) only[go_sem,simprocAttr, *]; try rfl, rfl⟩
                  · clear hst2 hout2 hX
                    rintro e Hz ⟨i, hi, hst, hout, hX, e1, e3, e7, e16, e17, e18, e19⟩ R3 hR3
                    have hOl := orL_len hM hXl hi
                    have hv1 := vs_bools hout (by omega)
                    have hv2 := vs_bools hX (by omega)
                    repeat' (first | refine wz1 ?_ | refine wz2 ?_ | refine wz3 ?_ | refine wz4 ?_ | refine wz5 ?_ | refine wz6 ?_ | simp -dsimp (maxSteps:=999999) (disch:=omega) only[go_sem,simprocAttr, *])
                    refine wz7 (fun hb3 => ?_) (fun hb3 => ?_) <;> try simp -dsimp (maxSteps:=999999) (disch:=omega) only[go_sem,simprocAttr,decide_eq_true_eq,decide_eq_false_iff_not,Bool.not_eq_true,Bool.not_eq_false,Int.not_lt,Int.not_le] at hb3
                    · have hy := bs_at (l := X) (i := i) (by omega)
                      have hz : (bsD (orL M X i))[i]? = some (.bool M[i]) := by simp [bsD, orL_at hM hXl (show i < w.length + 1 by omega)]
                      have hnext := orL_next hM hXl (show i < w.length + 1 by omega)
                      have hmore : moreL M X (i + 1) = (moreL M X i || (X[i] && !M[i])) := by simp [moreL, List.getD, show i < X.length by omega, show i < M.length by omega]
                      have hne : m + 1 ≠ p' := by omega
                      generalize moreL M X i = c at *
                      cases c <;> cases hXi : X[i] <;> cases hMi : M[i] <;>
                      (rw [hXi] at hy hnext hmore
                       rw [hMi] at hz hnext hmore
                       simp only [Bool.true_or, Bool.false_or, Bool.or_true, Bool.or_false, Bool.true_and, Bool.false_and, Bool.and_true, Bool.and_false, Bool.not_true, Bool.not_false] at hnext hmore
                       repeat' (first | refine wz1 ?_ | refine wz2 ?_ | refine wz3 ?_ | refine wz4 ?_ | refine wz5 ?_ | refine wz6 ?_ | simp -dsimp (maxSteps:=999999) (disch:=omega) only[go_sem,simprocAttr, *])
                       refine hR3 _ _ ⟨i + 1, by omega, hst.set (by omega), by rw [hnext, ← bs_set]; exact hget_set_eq (lt_of_hget hout), by rw [hget_set_ne hne]; exact hX, gs, gs, gs, gs, gs, gs, gs⟩ ?_
                       simp -dsimp (maxSteps:=999999) (disch:=omega) only[go_sem,simprocAttr, *,natOf_int])
                    · have hii : i = w.length + 1 := by omega
                      subst hii
                      rw [orL_end hM hXl] at hout
                      have hrx := hst.rx
                      rw [if_pos (.inl trivial)] at ha
                      rw [ha] at hR
                      repeat' (first | refine wz1 ?_ | refine wz2 ?_ | refine wz3 ?_ | refine wz4 ?_ | refine wz5 ?_ | refine wz6 ?_ | simp -dsimp (maxSteps:=999999) (disch:=omega) only[go_sem,simprocAttr, *])
                      refine wz7 (fun hb4 => ?_) (fun hb4 => ?_) <;> try simp -dsimp (maxSteps:=999999) (disch:=omega) only[go_sem,simprocAttr,decide_eq_true_eq,decide_eq_false_iff_not,Bool.not_eq_true,Bool.not_eq_false,Int.not_lt,Int.not_le] at hb4
                      repeat' (first | refine wz1 ?_ | refine wz2 ?_ | refine wz3 ?_ | refine wz4 ?_ | refine wz5 ?_ | refine wz6 ?_ | simp -dsimp (maxSteps:=999999) (disch:=omega) only[go_sem,simprocAttr, *])
                      exact hR _ _ ⟨m + 1, by omega, gs, hout, hst.same⟩
                · rw [show w.length + 1 - t = 0 by omega] at ha
                  simp only [roundsB] at ha
                  rw [ha] at hR
                  repeat' (first | refine wz1 ?_ | refine wz2 ?_ | refine wz3 ?_ | refine wz4 ?_ | refine wz5 ?_ | refine wz6 ?_ | simp -dsimp (maxSteps:=999999) (disch:=omega) only[go_sem,simprocAttr, *])
                  exact hR _ _ ⟨m + 1, by omega, gs, hout, hst.same⟩
        exfalso
        simp only [shapesR, Bool.and_eq_true] at hs
        have := hs.1
        simp [shape1, h0, h1, h2, h3, hK, hL] at this
      · rintro e Hx ⟨p, hp, e7, hout, hs⟩
        repeat' (first | refine wz1 ?_ | refine wz2 ?_ | refine wz3 ?_ | refine wz4 ?_ | refine wz5 ?_ | refine wz6 ?_ | simp -dsimp (maxSteps:=999999) (disch:=omega) only[go_sem,simprocAttr, *])
        exact ⟨by rw [hm]; exact hs, p, by rw [hm]; exact hp, rfl, hout⟩
end Go.Proofs.W
end
/- Expressions: whether they have a word. -/
section
set_option maxHeartbeats 4000000
set_option linter.unusedVariables false
set_option linter.unusedSimpArgs false
namespace Go.Proofs.W
open Go Vm Go.Proofs.Zs07

mutual
theorem ends_nil : ∀ (r : Rx) (hs : shapesR r = true) (b : Bool), endsR [] r [b] = [b && emptyR r]
  | .mk k s l, hs, b => by
    simp only [shapesR, Bool.and_eq_true] at hs
    have hs1 := hs.1
    simp only [endsR, emptyR]
    by_cases h0 : k = 0
    · subst h0; simp
    rw [if_neg h0]
    by_cases h1 : k = 1
    · subst h1; simp [stepB]
    rw [if_neg h1, if_neg h1]
    by_cases h2 : k = 2
    · subst h2; simp only [if_true]; exact endsCat_nil l hs.2 b
    rw [if_neg h2, if_neg h2]
    by_cases h3 : k = 3
    · subst h3; simp only [if_true, List.length_nil, Nat.zero_add, List.replicate_one]; rw [endsAlt_nil l hs.2 b false]; simp
    rw [if_neg h3, if_neg h3]
    by_cases h4 : k = 4 ∨ k = 5
    · rw [if_pos h4]
      simp only [Bool.and_true, List.length_nil, Nat.zero_add, roundsB]
      have := endsOne_nil l hs.2 b
      obtain ⟨c, hc⟩ := this
      rw [hc]
      have : orB [b] [b && c] = [b] := by cases b <;> simp [orB]
      rw [this]; simp
    · simp [shape1, h0, h1, h2, h3, h4] at hs1
theorem endsCat_nil : ∀ (l : List Rx) (hs : shapesL l = true) (b : Bool), endsCat [] l [b] = [b && emptyR.emptyAll l]
  | [], hs, b => by simp [endsCat, emptyR.emptyAll]
  | r :: l, hs, b => by
    simp only [shapesL, Bool.and_eq_true] at hs
    simp only [endsCat, emptyR.emptyAll, ends_nil r hs.1, endsCat_nil l hs.2, Bool.and_assoc]
theorem endsAlt_nil : ∀ (l : List Rx) (hs : shapesL l = true) (b a : Bool), endsAlt [] l [b] [a] = [a || (b && emptyR.emptyAny l)]
  | [], hs, b, a => by simp [endsAlt, emptyR.emptyAny]
  | r :: l, hs, b, a => by
    simp only [shapesL, Bool.and_eq_true] at hs
    simp only [endsAlt, emptyR.emptyAny, ends_nil r hs.1, orB, List.zipWith_cons_cons, List.zipWith_nil_left, endsAlt_nil l hs.2, Bool.and_or_distrib_left, Bool.or_assoc]
theorem endsOne_nil : ∀ (l : List Rx) (hs : shapesL l = true) (b : Bool), ∃ c, endsOne [] l [b] = [b && c]
  | [], hs, b => ⟨true, by simp [endsOne]⟩
  | r :: l, hs, b => by
    simp only [shapesL, Bool.and_eq_true] at hs
    exact ⟨_, ends_nil r hs.1 b⟩
end
def startB (n : Nat) : List Bool := true :: List.replicate n false
def hasR (w : List Int) (r : Rx) : Bool := (endsR w r (startB w.length)).getD w.length false
theorem has_nil (r : Rx) (hs : shapesR r = true) : hasR [] r = emptyR r := by
  simp only [hasR, startB, List.length_nil, List.replicate_zero, ends_nil r hs, Bool.true_and]; rfl
theorem start_len (n : Nat) : (startB n).length = n + 1 := by simp [startB]
theorem hasP_ok (w : List Int) (hw : w.length ≤ 1000) (r : Rx) (hr : okR r) (hs : shapesR r = true) : PureF Tryd.prog A 16 [rxD r, isD w] (.bool (hasR w r)) := by
  have he := fun (H : Heap) (q : Nat) hq => ends_ok w hw (depth r) r hr (Nat.le_refl _) hs (startB w.length) (start_len _) H q hq
  have hel := ends_len w r (startB w.length) (start_len _)
  have hmk := fun H => mk_bools (n := (w.length : Int) + 1) (H := H) (by omega) (by omega)
  have hnat : ((w.length : Int) + 1).toNat = w.length + 1 := by omega
  simp only [hnat] at hmk
  have c1 := rx_cells r
  have c2 := rx_aggQ r
  have c3 := rx_noTup r
  unfold hasR
  generalize endsR w r (startB w.length) = X at *
  refine evF_inB (n := 20) (rs := [.tmp 4]) Tryd.func16 rfl rfl rfl rfl rfl rfl ?_
  generalize rxD r = d at *
  have hv : vecSize [Ob.arr [d], Ob.arr (bsD (List.replicate (w.length + 1) false))] 1 1 = true := vs_bools rfl (by simp)
  have hF0 : (bsD (List.replicate (w.length + 1) false))[0]? = some (.bool false) := by simp [bsD, List.replicate_succ]
  have hF1 : (bsD (List.replicate (w.length + 1) false)).set 0 (.bool true) = bsD (startB w.length) := by simp [bsD, List.replicate_succ, startB]
  have hcall := he [Ob.arr [d], Ob.arr (bsD (startB w.length))] 1 rfl
  generalize bsD (List.replicate (w.length + 1) false) = F at *
  clear he
  repeat' (first | refine wz1 ?_ | refine wz2 ?_ | refine wz3 ?_ | refine wz4 ?_ | refine wz5 ?_ | refine wz6 ?_ | simp -dsimp (maxSteps:=999999) (disch:=omega) only[go_sem,simprocAttr, *,isD])
  rw [← isD]
  refine evB_state bo26 rfl rfl hcall ?_ (fun _ _ h => h.elim)
  rintro _ Hy ⟨hsame, p, hp, rfl, hX⟩
  have hvx := vs_bools hX (by omega)
  have hx := bs_at (l := X) (i := w.length) (by omega)
  have hg : X.getD w.length false = X[w.length] := by simp [List.getD, show w.length < X.length by omega]
  rw [hg]
  simp -dsimp (maxSteps:=999999) (disch:=omega) only[go_sem,simprocAttr, *]
  repeat' (first | refine wz1 ?_ | refine wz2 ?_ | refine wz3 ?_ | refine wz4 ?_ | refine wz5 ?_ | refine wz6 ?_ | simp -dsimp (maxSteps:=999999) (disch:=omega) only[go_sem,simprocAttr, *,isD])
end Go.Proofs.W
end
/- Machines with free steps: the document's lists, steps and ends. -/
section
set_option maxHeartbeats 4000000
set_option linter.unusedVariables false
set_option linter.unusedSimpArgs false
namespace Go.Proofs.W
open Go Vm Go.Proofs.Zs07

/-- the numbers of a table -/
def listZ (k : Nat) (p : Nat → Bool) : List Int := ((List.range k).filter p).map fun (i : Nat) => (i : Int)
theorem listZ_succ {k : Nat} {p : Nat → Bool} : listZ (k + 1) p = listZ k p ++ if p k then [(k : Int)] else [] := by
  unfold listZ
  rw [List.range_succ, List.filter_append, List.map_append]
  congr 1
  by_cases h : p k = true <;> simp [h]
theorem listZ_len (k : Nat) (p : Nat → Bool) : (listZ k p).length ≤ k := by
  have := List.length_filter_le p (List.range k)
  simp [listZ] at this ⊢; exact this
theorem mem_listZ {k : Nat} {p : Nat → Bool} {s : Int} : s ∈ listZ k p ↔ ∃ i, i < k ∧ p i = true ∧ s = i := by
  simp only [listZ, List.mem_map, List.mem_filter, List.mem_range]
  exact ⟨fun ⟨a, ⟨h1, h2⟩, h3⟩ => ⟨a, h1, h2, h3.symm⟩, fun ⟨a, h1, h2, h3⟩ => ⟨a, ⟨h1, h2⟩, h3.symm⟩⟩
/-- a state has a step by a category -/
def hit (n : Nfa) (c : Int) (i : Nat) : Bool := inB (n.set.getD i 0) c
/-- those to which states ahead of one step -/
def stepTo (n : Nfa) (c : Int) (p : Nat → Bool) (j t : Nat) : Bool := (List.range j).any fun i => p i && hit n c i && decide (n.to.getD i 0 = (t : Int))
theorem stepTo_succ {n : Nfa} {c : Int} {p : Nat → Bool} {j t : Nat} : stepTo n c p (j + 1) t = (stepTo n c p j t || (p j && hit n c j && decide (n.to.getD j 0 = (t : Int)))) := by
  simp only [stepTo, List.range_succ, List.any_append, List.any_cons, List.any_nil, Bool.or_false]
theorem bitZ_zero (c : Int) : bitZ 0 c = false := by
  simp [bitZ, IntKind.wrap, IntKind.bits, IntKind.signed]
theorem right_row {n : Nfa} (h : rightN n = true) : 1 ≤ n.set.length ∧ n.set.length ≤ 3300 ∧ n.free.length = n.set.length ∧ n.to.length = n.set.length ∧ n.rule.length = n.set.length ∧ ∀ i, i < n.set.length → rowOk n i = true := by
  simp only [rightN, Bool.and_eq_true, decide_eq_true_eq, allN_iff] at h
  exact ⟨h.1.1, h.1.2.1, h.1.2.2.1, h.1.2.2.2.1, h.1.2.2.2.2, fun i hi => h.2 i (by omega) (by omega)⟩
theorem right_hit {n : Nfa} (h : rightN n = true) {c : Int} {i : Nat} (hi : i < n.set.length) (hh : hit n c i = true) : 0 ≤ n.to.getD i 0 ∧ n.to.getD i 0 < n.set.length := by
  have := (right_row h).2.2.2.2.2 i hi
  simp only [rowOk, Bool.and_eq_true, Bool.not_eq_true', Bool.and_eq_false_iff, decide_eq_false_iff_not] at this
  rcases this.1.1.1 with h1 | h1
  · have h1 : n.set.getD i 0 = 0 := by omega
    rw [hit, h1] at hh
    simp [inB, bitZ_zero] at hh
  · exact isS_iff.1 (by simpa using h1)
end Go.Proofs.W
end
/- Machines with free steps: the document's steps and ends, walked. -/
section
set_option maxHeartbeats 4000000
set_option linter.unusedVariables false
set_option linter.unusedSimpArgs false
namespace Go.Proofs.W
open Go Vm Go.Proofs.Zs07

theorem conv_u64 (c : Int) (H : Heap) : convD Tryd.prog 3 82 (.int .i64 c) H = some (.int .u64 (IntKind.u64.wrap c), H) := by
  simp only [convD_eq, un3, un82]; rfl
theorem hit_bit {n : Nfa} {c s : Int} {j : Nat} (h0 : 0 ≤ c) (h1 : c < 16) (hs : n.set.getD j 0 = s) : hit n c j = bitZ s c := by
  simp only [hit, inB, h0, h1, hs, decide_true, Bool.true_and]
/-- the least of those that aren't below nothing; -1: none is -/
def bestFrom (o : Int) (l : List Int) : Int := l.foldl (fun o r => if 0 ≤ r ∧ (o < 0 ∨ r < o) then r else o) o
theorem bestFrom_cons {o r : Int} {l : List Int} : bestFrom o (r :: l) = bestFrom (if 0 ≤ r ∧ (o < 0 ∨ r < o) then r else o) l := rfl
theorem bestFrom_spec : ∀ (l : List Int) (o : Int), -1 ≤ o → -1 ≤ bestFrom o l ∧ (∀ r ∈ l, 0 ≤ r → 0 ≤ bestFrom o l ∧ bestFrom o l ≤ r) ∧ (0 ≤ o → 0 ≤ bestFrom o l ∧ bestFrom o l ≤ o) ∧ (bestFrom o l = o ∨ bestFrom o l ∈ l)
  | [], o, ho => ⟨ho, (fun r h => by cases h), fun h => ⟨h, Int.le_refl _⟩, .inl rfl⟩
  | r :: l, o, ho => by
    rw [bestFrom_cons]
    by_cases hc : 0 ≤ r ∧ (o < 0 ∨ r < o)
    · rw [if_pos hc]
      obtain ⟨h1, h2, h3, h4⟩ := bestFrom_spec l r (by omega)
      have h3' := h3 hc.1
      refine ⟨h1, fun x hx h0 => ?_, fun h0 => by omega, ?_⟩
      · rcases List.mem_cons.1 hx with rfl | hx
        · exact h3'
        · exact h2 x hx h0
      · rcases h4 with h4 | h4
        · exact .inr (by rw [h4]; simp)
        · exact .inr (by simp [h4])
    · rw [if_neg hc]
      obtain ⟨h1, h2, h3, h4⟩ := bestFrom_spec l o ho
      refine ⟨h1, fun x hx h0 => ?_, h3, ?_⟩
      · rcases List.mem_cons.1 hx with rfl | hx
        · have := h3 (by omega)
          omega
        · exact h2 x hx h0
      · rcases h4 with h4 | h4
        · exact .inl h4
        · exact .inr (by simp [h4])
theorem best_eq {l : List Int} {v : Int} (h : (v = -1 ∧ ∀ r ∈ l, r < 0) ∨ (0 ≤ v ∧ v ∈ l ∧ ∀ r ∈ l, 0 ≤ r → v ≤ r)) : bestFrom (-1) l = v := by
  obtain ⟨h1, h2, h3, h4⟩ := bestFrom_spec l (-1) (by omega)
  rcases h with ⟨rfl, h⟩ | ⟨h0, hm, hl⟩
  · rcases h4 with h4 | h4
    · exact h4
    · have := h _ h4; omega
  · have h5 := h2 v hm h0
    rcases h4 with h4 | h4
    · omega
    · have := hl _ h4 h5.1; omega
def endsZ (n : Nfa) (l : List Int) : Int := bestFrom (-1) (l.map fun s => n.rule.getD s.toNat 0)
end Go.Proofs.W
end
/- Machines with free steps: what free steps lead to; the document's closed tables. -/
section
set_option maxHeartbeats 4000000
set_option linter.unusedVariables false
set_option linter.unusedSimpArgs false
namespace Go.Proofs.W
open Go Vm Go.Proofs.Zs07

inductive Reach (n : Nfa) (p : Nat → Prop) : Nat → Prop
  | base {s : Nat} : p s → Reach n p s
  | step {s t : Nat} : Reach n p s → (t : Int) ∈ n.free.getD s [] → Reach n p t
noncomputable def clo (n : Nfa) (p : Nat → Prop) (s : Nat) : Bool := @decide (Reach n p s) (Classical.propDecidable _)
theorem clo_iff {n : Nfa} {p : Nat → Prop} {s : Nat} : clo n p s = true ↔ Reach n p s := by
  unfold clo; exact @decide_eq_true_iff _ (Classical.propDecidable _)
theorem right_free {n : Nfa} (h : rightN n = true) {i : Nat} (hi : i < n.set.length) {x : Int} (hx : x ∈ n.free.getD i []) : 0 ≤ x ∧ x < n.set.length := by
  have := (right_row h).2.2.2.2.2 i hi
  simp only [rowOk, Bool.and_eq_true, List.all_eq_true] at this
  exact isS_iff.1 (this.2 x hx)
theorem clo_eq {n : Nfa} (hn : rightN n = true) {p : Nat → Prop} (hp : ∀ s, p s → s < n.set.length) {q : Nat → Bool} (h1 : ∀ s, s < n.set.length → p s → q s = true) (h2 : ∀ s, s < n.set.length → q s = true → Reach n p s)
    (h3 : ∀ s, s < n.set.length → q s = true → ∀ t : Nat, (t : Int) ∈ n.free.getD s [] → q t = true) : ∀ s, s < n.set.length → q s = clo n p s := by
  have key : ∀ s, Reach n p s → s < n.set.length ∧ q s = true := by
    intro s h
    induction h with
    | base h => exact ⟨hp _ h, h1 _ (hp _ h) h⟩
    | step h ht ih =>
      have := right_free hn ih.1 ht
      exact ⟨by omega, h3 _ ih.1 ih.2 _ ht⟩
  intro s hs
  rw [Bool.eq_iff_iff, clo_iff]
  exact ⟨h2 s hs, fun h => (key s h).2⟩
end Go.Proofs.W
end
/- Machines with free steps: all states by free steps, depth first. -/
section
set_option maxHeartbeats 4000000
set_option linter.unusedVariables false
set_option linter.unusedSimpArgs false
namespace Go.Proofs.W
open Go Vm Go.Proofs.Zs07

theorem cntF_one {q : Nat → Bool} {t : Nat} : ∀ {k : Nat}, t < k → q t = false → cntF (fun i => if i = t then true else q i) k + 1 = cntF q k
  | 0, h, _ => by omega
  | k + 1, h, h2 => by
    simp only [cntF]
    by_cases e : t = k
    · subst e
      have : ∀ m, m ≤ t → cntF (fun i => if i = t then true else q i) m = cntF q m := by
        intro m hm
        induction m with
        | zero => rfl
        | succ m ih => simp only [cntF, ih (by omega), show (m = t) = False from eq_false (by omega), if_false]
      have h3 := this t (Nat.le_refl _)
      simp only [h3, h2, if_true, Bool.false_eq_true, if_false]
    · have := cntF_one (k := k) (by omega) h2
      simp only [show (k = t) = False from eq_false (fun h => e h.symm), if_false]
      omega
/-- what the walk holds: the machine, who is there, who is told -/
def goA : List D := [.ptr 2 0 0, .ptr 3 0 0, .ptr 0 0 0, .ptr 4 0 0]
structure DS (n : Nfa) (k : Nat) (q : Nat → Bool) (out : List Int) (d : D) (H : Heap) : Prop where
  h0 : hget H 0 = .arr [nfaD n]
  h1 : hget H 1 = .arr (tabD k q)
  h2 : hget H 2 = .arr [.vec 1 0 k]
  h3 : hget H 3 = .arr [d]
  hv : VecAt 5 d H (out.map (.int .i64))
  h4 : hget H 4 = .arr [.fn 54 goA]
structure OutOk (k : Nat) (q : Nat → Bool) (out : List Int) : Prop where
  nodup : out.Nodup
  mem : ∀ x : Int, x ∈ out ↔ ∃ i, i < k ∧ q i = true ∧ x = i
  len : out.length + cntF q k = k
structure Went (n : Nfa) (k : Nat) (q q' : Nat → Bool) (s : Nat) : Prop where
  keep : ∀ x, x < k → q x = true → q' x = true
  from' : ∀ x, x < k → q' x = true → q x = true ∨ Reach n (· = s) x
  new : ∀ x, x < k → q' x = true → q x = false → ∀ t : Nat, (t : Int) ∈ n.free.getD x [] → q' t = true
def GoPost (n : Nfa) (k : Nat) (s : Int) (q : Nat → Bool) (H' : Heap) : Prop := ∃ q' out' d', DS n k q' out' d' H' ∧ OutOk k q' out' ∧ ((s < 0 ∨ k ≤ s) ∧ q' = q ∨ (0 ≤ s ∧ s < k ∧ q' s.toNat = true ∧ Went n k q q' s.toNat))
theorem go_ok (n : Nfa) (hn : rightN n = true) (hfl : ∀ l ∈ n.free, l.length ≤ 1000000) : ∀ (m : Nat) (s : Int) (q : Nat → Bool) (out : List Int) (d : D) (H : Heap), cntF q n.set.length ≤ m → DS n n.set.length q out d H → OutOk n.set.length q out →
    EvF Tryd.prog A 54 (.int .i64 s :: goA) H (fun _ H' => GoPost n n.set.length s q H') (fun _ _ => False) := by
  obtain ⟨hk, hk2, hf, ht, hr, hrow⟩ := right_row hn
  have hfree := fun i hi x hx => right_free hn (i := i) hi (x := x) hx
  generalize hkk : n.set.length = k at *
  intro m
  induction m using Nat.strongRecOn with
  | _ m ih =>
    rintro s q out d H hm ⟨h0, h1, h2, h3, hv, h4⟩ hout
    have hL := lt_of_hget h4
    obtain ⟨w1, w2, w3⟩ := hv.one
    have hol : out.length ≤ k := by have := hout.len; omega
    simp only [goA] at *
    refine evF_inB (n := 43) (rs := []) Tryd.func54 rfl rfl rfl rfl rfl rfl ?_
    by_cases c1 : 0 ≤ s
    · by_cases c2 : s < k
      · obtain ⟨t, rfl⟩ : ∃ t : Nat, s = t := ⟨s.toNat, by omega⟩
        have htk : t < k := by omega
        cases hqt : q t with
        | true =>
          repeat' (first | refine wz1 ?_ | refine wz2 ?_ | refine wz3 ?_ | refine wz4 ?_ | refine wz5 ?_ | refine wz6 ?_ | simp -dsimp (maxSteps:=999999) (disch:=omega) only[go_sem,simprocAttr, *] | ((first | refine wz8 (fun hh => ?_) (fun hh => ?_) | refine wz9 (fun hh => ?_) (fun hh => ?_) | refine wz7 (fun hh => ?_) (fun hh => ?_)) <;> (try replace hh := vqs hh) <;> (try (exfalso; first | exact hh | omega))))
          exact ⟨q, out, d, ⟨h0, h1, h2, h3, hv, h4⟩, hout, .inr ⟨c1, c2, by simpa using hqt, ⟨fun _ _ h => h, fun _ _ h => .inl h, fun x hx h g => by rw [h] at g; cases g⟩⟩⟩
        | false =>
          obtain ⟨d', H', ha, hv', hsm⟩ := app_int (hv.setLow (k := 1) (o := Ob.arr (tabD k fun i => if i = t then true else q i)) (by omega)) (t : Int) (by omega)
          obtain ⟨v1, v2, v3⟩ := hv'.one
          simp only [List.length_set] at ha
          have hL' : 5 ≤ H'.length := hv'.1
          have hs0 := hsm.2 0 (by omega)
          have hs1 := hsm.2 1 (by omega)
          have hs2 := hsm.2 2 (by omega)
          have hs3 := hsm.2 3 (by omega)
          have hs4 := hsm.2 4 (by omega)
          rw [hget_set_ne (by omega)] at hs0 hs2 hs3 hs4
          rw [hget_set_eq (by omega)] at hs1
          obtain ⟨fr, hf1, hf2⟩ := ex_at (l := n.free) (i := t) [] (by omega)
          have hfx := hfree t htk
          rw [hf2] at hfx
          have hfrl := hfl fr (List.mem_of_getElem? hf1)
          repeat' (first | refine wz1 ?_ | refine wz2 ?_ | refine wz3 ?_ | refine wz4 ?_ | refine wz5 ?_ | refine wz6 ?_ | simp -dsimp (maxSteps:=999999) (disch:=omega) only[go_sem,simprocAttr, *,nfaD, issD, isD] | ((first | refine wz8 (fun hh => ?_) (fun hh => ?_) | refine wz9 (fun hh => ?_) (fun hh => ?_) | refine wpB_cond (by simp -dsimp (maxSteps:=999999) (disch:=omega) only[go_sem,simprocAttr, *,nfaD, issD, isD]; exact rfl) (fun hh => ?_) (fun hh => ?_)) <;> (try replace hh := vqs hh) <;> (try (exfalso; first | exact hh | omega))))
          have ho1 : OutOk k (fun i => if i = t then true else q i) (out ++ [(t : Int)]) := by
            refine ⟨?_, fun x => ?_, ?_⟩
            · rw [List.nodup_append]
              refine ⟨hout.nodup, by simp, fun x hx y hy e => ?_⟩
              obtain ⟨i, i1, i2, i3⟩ := (hout.mem x).1 hx
              have : i = t := by simp at hy; omega
              subst this; rw [hqt] at i2; cases i2
            · rw [List.mem_append, hout.mem]
              constructor
              · rintro (⟨i, i1, i2, i3⟩ | hx)
                · refine ⟨i, i1, ?_, i3⟩
                  show (if i = t then true else q i) = true
                  rw [i2]; simp
                · exact ⟨t, htk, by simp, by simpa using hx⟩
              · rintro ⟨i, i1, i2, i3⟩
                by_cases e : i = t
                · subst e; exact .inr (by simp [i3])
                · simp only [e, if_false] at i2
                  exact .inl ⟨i, i1, i2, i3⟩
            · have := cntF_one htk hqt
              have h9 := hout.len
              simp only [List.length_append, List.length_cons, List.length_nil]
              omega
          refine wpB_loop (fun e H => ∃ (j : Nat) (qj : Nat → Bool) (outj : List Int) (dj : D), j ≤ fr.length ∧ DS n k qj outj dj H ∧ OutOk k qj outj ∧ e 4 = .ptr 4 0 0 ∧ e 33 = isD fr ∧ e 34 = .int .i64 fr.length ∧ e 35 = .int .i64 j ∧ (∀ x, x < k → (if x = t then true else q x) = true → qj x = true)
            ∧ (∀ x, x < k → qj x = true → (if x = t then true else q x) = true ∨ Reach n (· = t) x) ∧ (∀ x, x < k → qj x = true → (if x = t then true else q x) = false → ∀ y : Nat, (y : Int) ∈ n.free.getD x [] → qj y = true) ∧ ∀ y : Nat, (y : Int) ∈ fr.take j → qj y = true) (fun e H => fr.length - natOf (e 35)) ?_ ?_
          · refine ⟨0, _, out ++ [(t : Int)], d', by omega, ⟨by rw [hget_set_ne (by omega)]; rw [hs0, h0], by rw [hget_set_ne (by omega)]; exact hs1, by rw [hget_set_ne (by omega)]; rw [hs2, h2], by rw [hget_set_eq (by omega)], hv'.setLow (by omega), by rw [hget_set_ne (by omega)]; rw [hs4, h4]; rfl⟩, ho1, gs, by simp -dsimp (maxSteps:=999999) (disch:=omega) only[go_sem,simprocAttr, *,isD], gs, gs, fun _ _ h => h, fun _ _ h => .inl h, fun x _ h g => ?_, fun y hy => by simp at hy⟩
            have h' : (if x = t then true else q x) = true := h
            rw [h'] at g; cases g
          clear hs0 hs1 hs2 hs3 hs4 ha hv' hsm v1 v2 v3 h0 h1 h2 h3 h4 hv w1 w2 w3 ho1
          rintro e Hj ⟨j, qj, outj, dj, hj, hds, hoj, e4, e33, e34, e35, g1, g2, g3, g4⟩ R hR
          have h4 := hds.h4
          simp only [goA] at h4
          by_cases hb : j < fr.length
          · have hfj := hfx fr[j] (List.getElem_mem hb)
            obtain ⟨y, hy⟩ : ∃ y : Nat, fr[j] = (y : Int) := ⟨fr[j].toNat, by omega⟩
            have hcnt : cntF qj k < m := by
              have h5 := cntF_one htk hqt
              have h6 := cntF_le (k := k) g1
              omega
            have hcall := ih _ hcnt (y : Int) qj outj dj Hj (Nat.le_refl _) hds hoj
            repeat' (first | refine wz1 ?_ | refine wz2 ?_ | refine wz3 ?_ | refine wz4 ?_ | refine wz5 ?_ | refine wz6 ?_ | simp -dsimp (maxSteps:=999999) (disch:=omega) only[go_sem,simprocAttr, *,isD] | ((first | refine wz8 (fun hh => ?_) (fun hh => ?_) | refine wz9 (fun hh => ?_) (fun hh => ?_) | refine wpB_cond (by simp -dsimp (maxSteps:=999999) (disch:=omega) only[go_sem,simprocAttr, *,isD]; exact rfl) (fun hh => ?_) (fun hh => ?_)) <;> (try replace hh := vqs hh) <;> (try (exfalso; first | exact hh | omega))))
            refine evB_state bo54 rfl rfl hcall ?_ (fun _ _ h => h.elim)
            rintro _ H2 ⟨q2, out2, d2, hd2, ho2, hw⟩
            repeat' (first | refine wz1 ?_ | refine wz2 ?_ | refine wz3 ?_ | refine wz4 ?_ | refine wz5 ?_ | refine wz6 ?_ | simp -dsimp (maxSteps:=999999) (disch:=omega) only[go_sem,simprocAttr, *] | ((first | refine wz8 (fun hh => ?_) (fun hh => ?_) | refine wz9 (fun hh => ?_) (fun hh => ?_) | refine wz7 (fun hh => ?_) (fun hh => ?_)) <;> (try replace hh := vqs hh) <;> (try (exfalso; first | exact hh | omega))))
            rcases hw with ⟨h7, -⟩ | ⟨h7, h8, h9, hw⟩
            · omega
            · rw [Int.toNat_natCast] at h9 hw
              have hyk : y < k := by omega
              have hyf : (y : Int) ∈ n.free.getD t [] := by rw [hf2, ← hy]; exact List.getElem_mem hb
              have hfrom : ∀ x, Reach n (· = y) x → Reach n (· = t) x := by
                intro x hx
                induction hx with
                | base h => subst h; exact .step (.base rfl) hyf
                | step _ h ih => exact .step ih h
              refine hR _ _ ⟨j + 1, q2, out2, d2, by omega, hd2, ho2, gs, by simp -dsimp (maxSteps:=999999) (disch:=omega) only[go_sem,simprocAttr, *,isD], gs, gs, fun x hx h => hw.keep x hx (g1 x hx h), fun x hx h => ?_, fun x hx h g z hz => ?_, fun z hz => ?_⟩ ?_
              · rcases hw.from' x hx h with h | h
                · exact g2 x hx h
                · exact .inr (hfrom x h)
              · cases hq : qj x with
                | true =>
                  have hzk := hfree x hx z hz
                  exact hw.keep z (by omega) (g3 x hx hq g z hz)
                | false => exact hw.new x hx h hq z hz
              · rw [take_succ' hb, List.mem_append] at hz
                rcases hz with hz | hz
                · have hzk := hfx z (List.mem_of_mem_take hz)
                  exact hw.keep z (by omega) (g4 z hz)
                · have : z = y := by simp [hy] at hz; omega
                  subst this; exact h9
              · simp -dsimp (maxSteps:=999999) (disch:=omega) only[go_sem,simprocAttr, *,natOf_int]
          · repeat' (first | refine wz1 ?_ | refine wz2 ?_ | refine wz3 ?_ | refine wz4 ?_ | refine wz5 ?_ | refine wz6 ?_ | simp -dsimp (maxSteps:=999999) (disch:=omega) only[go_sem,simprocAttr, *] | ((first | refine wz8 (fun hh => ?_) (fun hh => ?_) | refine wz9 (fun hh => ?_) (fun hh => ?_) | refine wz7 (fun hh => ?_) (fun hh => ?_)) <;> (try replace hh := vqs hh) <;> (try (exfalso; first | exact hh | omega))))
            refine ⟨qj, outj, dj, hds, hoj, .inr ⟨c1, c2, by simpa using g1 t htk (by simp), ⟨fun x hx h => g1 x hx (by rw [h]; simp), fun x hx h => ?_, fun x hx h g z hz => ?_⟩⟩⟩
            · rcases g2 x hx h with h | h
              · by_cases e : x = t
                · subst e; exact .inr (.base (by simp))
                · rw [if_neg e] at h; exact .inl h
              · exact .inr (by simpa using h)
            · by_cases e : x = t
              · subst e
                rw [hf2] at hz
                exact g4 z (by rw [List.take_of_length_le (by omega)]; exact hz)
              · exact g3 x hx h (by rw [if_neg e]; exact g) z hz
      · repeat' (first | refine wz1 ?_ | refine wz2 ?_ | refine wz3 ?_ | refine wz4 ?_ | refine wz5 ?_ | refine wz6 ?_ | simp -dsimp (maxSteps:=999999) (disch:=omega) only[go_sem,simprocAttr, *] | ((first | refine wz8 (fun hh => ?_) (fun hh => ?_) | refine wz9 (fun hh => ?_) (fun hh => ?_) | refine wz7 (fun hh => ?_) (fun hh => ?_)) <;> (try replace hh := vqs hh) <;> (try (exfalso; first | exact hh | omega))))
        exact ⟨q, out, d, ⟨h0, h1, h2, h3, hv, h4⟩, hout, .inl ⟨.inr (by omega), rfl⟩⟩
    · repeat' (first | refine wz1 ?_ | refine wz2 ?_ | refine wz3 ?_ | refine wz4 ?_ | refine wz5 ?_ | refine wz6 ?_ | simp -dsimp (maxSteps:=999999) (disch:=omega) only[go_sem,simprocAttr, *] | ((first | refine wz8 (fun hh => ?_) (fun hh => ?_) | refine wz9 (fun hh => ?_) (fun hh => ?_) | refine wz7 (fun hh => ?_) (fun hh => ?_)) <;> (try replace hh := vqs hh) <;> (try (exfalso; first | exact hh | omega))))
      exact ⟨q, out, d, ⟨h0, h1, h2, h3, hv, h4⟩, hout, .inl ⟨.inl (by omega), rfl⟩⟩
end Go.Proofs.W
end
/- Sorted and compacted lists of numbers. -/
section
set_option maxHeartbeats 4000000
set_option linter.unusedVariables false
set_option linter.unusedSimpArgs false
namespace Go.Proofs.W
open Go Vm Go.Proofs.Zs07

theorem strict_unique : ∀ {l l' : List Int}, l.Pairwise (· < ·) → l'.Pairwise (· < ·) → (∀ x, x ∈ l ↔ x ∈ l') → l = l'
  | [], [], _, _, _ => rfl
  | [], y :: t', _, _, h => by have := (h y).2 (by simp); cases this
  | x :: t, [], _, _, h => by have := (h x).1 (by simp); cases this
  | x :: t, y :: t', h1, h2, h => by
    have a1 := List.pairwise_cons.1 h1
    have a2 := List.pairwise_cons.1 h2
    have hx := (h x).1 (by simp)
    have hy := (h y).2 (by simp)
    have e : x = y := by
      rcases List.mem_cons.1 hx with e | hx
      · exact e
      · rcases List.mem_cons.1 hy with e | hy
        · exact e.symm
        · have := a1.1 y hy
          have := a2.1 x hx
          omega
    subst e
    refine congrArg (x :: ·) (strict_unique a1.2 a2.2 fun z => ⟨fun hz => ?_, fun hz => ?_⟩)
    · rcases List.mem_cons.1 ((h z).1 (List.mem_cons_of_mem _ hz)) with rfl | hz'
      · have := a1.1 _ hz; omega
      · exact hz'
    · rcases List.mem_cons.1 ((h z).2 (List.mem_cons_of_mem _ hz)) with rfl | hz'
      · have := a2.1 _ hz; omega
      · exact hz'
theorem listZ_strict (k : Nat) (p : Nat → Bool) : (listZ k p).Pairwise (· < ·) := by
  induction k with
  | zero => simp [listZ]
  | succ k ih =>
    rw [listZ_succ]
    cases hp : p k with
    | false => simpa using ih
    | true =>
      simp only [if_true, List.pairwise_append]
      refine ⟨ih, by simp, fun x hx y hy => ?_⟩
      obtain ⟨i, h1, h2, h3⟩ := mem_listZ.1 hx
      simp at hy; omega
theorem le_of_lt_pw {l : List Int} (h : l.Pairwise (· < ·)) : l.Pairwise (· ≤ ·) := h.imp fun h => Int.le_of_lt h
theorem strict_of {l : List Int} (h : l.Pairwise (· ≤ ·)) (hn : l.Nodup) : l.Pairwise (· < ·) := by
  have := List.pairwise_and_iff.2 ⟨h, hn⟩
  exact this.imp fun h => by have := h.1; have := h.2; omega
theorem sort_listZ {k : Nat} {q : Nat → Bool} {out : List Int} (h : OutOk k q out) : sortZ out = listZ k q := by
  refine strict_unique (strict_of (sortZ_sorted out) ((sortZ_perm out).nodup_iff.2 h.nodup)) (listZ_strict k q) fun x => ?_
  rw [(sortZ_perm out).mem_iff, h.mem, mem_listZ]
theorem compact_spec (d : Array Int) (hd : ∀ i j, i ≤ j → j < d.size → d[i]! ≤ d[j]!) : ∀ m, m ≤ d.size → (Lib.compactUpTo d m).Pairwise (· < ·) ∧ ∀ x, x ∈ Lib.compactUpTo d m ↔ ∃ j, j < m ∧ d[j]! = x
  | 0, _ => by simp [Lib.compactUpTo]
  | m + 1, hm => by
    obtain ⟨h1, h2⟩ := compact_spec d hd m (by omega)
    rw [Lib.compactUpTo_succ]
    cases hk : Lib.keeps d m with
    | true =>
      simp only [if_true]
      have hlt : ∀ j, j < m → d[j]! < d[m]! := by
        intro j hj
        simp only [Lib.keeps, decide_eq_true_eq] at hk
        have := hd j (m - 1) (by omega) (by omega)
        have := hd (m - 1) m (by omega) (by omega)
        rcases hk with hk | hk
        · omega
        · omega
      refine ⟨List.pairwise_append.2 ⟨h1, by simp, fun x hx y hy => ?_⟩, fun x => ?_⟩
      · obtain ⟨j, j1, j2⟩ := (h2 x).1 hx
        have := hlt j j1
        simp at hy; omega
      · rw [List.mem_append, h2]
        constructor
        · rintro (⟨j, j1, j2⟩ | hx)
          · exact ⟨j, by omega, j2⟩
          · exact ⟨m, by omega, by simpa using Eq.symm (by simpa using hx)⟩
        · rintro ⟨j, j1, j2⟩
          by_cases e : j = m
          · subst e; exact .inr (by simp [← j2])
          · exact .inl ⟨j, by omega, j2⟩
    | false =>
      simp only [Bool.false_eq_true, if_false, List.append_nil]
      refine ⟨h1, fun x => ?_⟩
      rw [h2]
      simp only [Lib.keeps, decide_eq_false_iff_not, not_or, Decidable.not_not] at hk
      constructor
      · rintro ⟨j, j1, j2⟩; exact ⟨j, by omega, j2⟩
      · rintro ⟨j, j1, j2⟩
        by_cases e : j = m
        · subst e; exact ⟨j - 1, by omega, by rw [← hk.2]; exact j2⟩
        · exact ⟨j, by omega, j2⟩
theorem pw_get {l : List Int} (h : l.Pairwise (· ≤ ·)) (i j : Nat) (hij : i ≤ j) (hj : j < l.toArray.size) : l.toArray[i]! ≤ l.toArray[j]! := by
  simp at hj
  rw [getElem!_pos l.toArray i (by simp; omega), getElem!_pos l.toArray j (by simpa using hj)]
  simp
  by_cases e : i = j
  · subst e; exact Int.le_refl _
  · exact List.pairwise_iff_getElem.1 h i j (by omega) hj (by omega)
theorem compact_sorted (zs : List Int) : (Lib.compact (sortZ zs)).Pairwise (· < ·) ∧ ∀ x, x ∈ Lib.compact (sortZ zs) ↔ x ∈ zs := by
  have hs := sortZ_sorted zs
  obtain ⟨h1, h2⟩ := compact_spec (sortZ zs).toArray (pw_get hs) (sortZ zs).length (by simp)
  refine ⟨h1, fun x => ?_⟩
  rw [← (sortZ_perm zs).mem_iff]
  show x ∈ Lib.compactUpTo _ _ ↔ _
  rw [h2, List.mem_iff_getElem]
  constructor
  · rintro ⟨j, j1, j2⟩
    exact ⟨j, j1, by rw [← j2, getElem!_pos (sortZ zs).toArray j (by simpa using j1)]; simp⟩
  · rintro ⟨j, j1, j2⟩
    exact ⟨j, j1, by rw [← j2, getElem!_pos (sortZ zs).toArray j (by simpa using j1)]; simp⟩
theorem compact_len (zs : List Int) : (Lib.compact zs).length ≤ zs.length := by
  unfold Lib.compact Lib.compactUpTo
  have := List.length_filter_le (Lib.keeps zs.toArray) (List.range zs.length)
  simpa using this
theorem sortZ_len (zs : List Int) : (sortZ zs).length = zs.length := (sortZ_perm zs).length_eq
theorem sort_vec {m : Nat} {d : D} {H : Heap} {zs : List Int} (h : VecAt m d H (zs.map (.int .i64))) (hl : zs.length ≤ 1000000) : ∃ H', pSort [d] H = some (.ok (.tup []) H') ∧ VecAt m d H' ((sortZ zs).map (.int .i64)) ∧ Same m H H' := by
  obtain ⟨h0, h | ⟨h1, r, h2, h3, h4, h5⟩⟩ := h
  · obtain ⟨h1, rfl⟩ := h
    obtain rfl : zs = [] := by simpa using h1
    exact ⟨H, rfl, ⟨h0, .inl ⟨rfl, rfl⟩⟩, Same.refl⟩
  · have hz : zs ≠ [] := by simpa using h1
    subst h4
    refine ⟨H.set r (.arr ((sortZ zs).map (.int .i64))), ?_, ⟨by simpa using h0, .inr ⟨?_, r, h2, by simpa using h3, ?_, hget_set_eq h3⟩⟩, Same.set h2⟩
    · simp only [pSort, h5, intsD_map, Option.bind_some]
      rw [if_pos ⟨by simp, by omega, by cases zs with | nil => exact absurd rfl hz | cons a b => simp⟩]
    · have := sortZ_len zs
      intro e
      have e2 : sortZ zs = [] := by simpa using e
      rw [e2] at this
      cases zs with
      | nil => exact hz rfl
      | cons a b => simp at this
    · simp [sortZ_len]
theorem compact_vec {m : Nat} {d : D} {H : Heap} {zs : List Int} (h : VecAt m d H (zs.map (.int .i64))) (hl : zs.length ≤ 1000000) : ∃ d' H', pCompact [d] H = some (.ok d' H') ∧ outPure H' d' = some (isD (Lib.compact zs)) ∧ Same m H H' := by
  obtain ⟨h0, h | ⟨h1, r, h2, h3, h4, h5⟩⟩ := h
  · obtain ⟨h1, rfl⟩ := h
    obtain rfl : zs = [] := by simpa using h1
    exact ⟨_, H, rfl, rfl, Same.refl⟩
  · have hz : zs ≠ [] := by simpa using h1
    subst h4
    refine ⟨.vec r 0 (Lib.compact zs).length, H.set r (.arr ((compactZ zs).map (.int .i64))), ?_, ?_, Same.set h2⟩
    · simp only [pCompact, h5, intsD_map, Option.bind_some]
      rw [if_pos ⟨by simp, by omega, by cases zs with | nil => exact absurd rfl hz | cons a b => simp, compact_len zs⟩]
    · unfold outPure deepest
      rw [pur_vec, hget_set_eq h3]
      have hcl : (compactZ zs).length = zs.length := by have := compact_len zs; simp [compactZ]; omega
      have htk : (((compactZ zs).map (D.int .i64)).drop 0).take (Lib.compact zs).length = (Lib.compact zs).map (.int .i64) := by
        rw [List.drop_zero, ← List.map_take]
        congr 1
        simp [compactZ]
      have hle := compact_len zs
      simp only [Nat.zero_add, List.length_map, hcl, if_pos hle, htk]
      rw [purL_strip (strip_ints _)]
      rfl
end Go.Proofs.W
end
/- Runs that are closed. -/
section
set_option maxHeartbeats 4000000
set_option linter.unusedVariables false
set_option linter.unusedSimpArgs false
namespace Go.Proofs.W
open Go Vm Go.Proofs.Zs07

theorem alive_ok : PureF Tryd.prog A 6 [] (.bool true) := okTrue_run alive_run
end Go.Proofs.W
end
