/- Texts that stand behind this claim, one after the other. -/
import Derived.Test.YthfbnjkijkbpcaaGreatDoorM6
import Derived.Test.YthfbnjkijkbpcaaGreatDoorM3
import Derived.Shelf.Small.Strs
import Derived.Shelf.Small.Wraps
import Derived.Shelf.Strings.Search1
import Derived.Shelf.Strings.Search2
import Derived.Shelf.Strings.Search3
import Derived.Shelf.Strings.Cut
import Derived.Shelf.Strings.Count
import Derived.Shelf.LaysM
import Derived.Shelf.Strings.Shaped
import Derived.Shelf.Sort.Plain
import Derived.Shelf.Strings.Prefix
import Derived.Shelf.Strings.Split
import Derived.Shelf.Unicode.DecodeSlow
import Derived.Ground.Names2Prog
import Derived.Shelf.Slices.CompactI
import Derived.Shelf.Slices.In.SortNone
import Derived.Test.YthfbnjkijkbpcaaGreatDoorProg
/- Expressions: whether they may be, in the document's words and in the program's. -/
section
set_option maxHeartbeats 4000000
set_option linter.unusedVariables false
set_option linter.unusedSimpArgs false
namespace Go.Proofs.W
open Go Vm Go.Proofs.Zs7z

def rightR (r : Rx) : Bool := decide (depth r ≤ 12) && decide (nodesR r ≤ 100) && shapesR r
theorem right_ok (r : Rx) (hr : okR r) : PureF Tryz.prog A 15 [rxD r] (.bool (rightR r)) := by
  have hd := deep_depth 12 r
  have hdeep := deep_ok 12 (by omega) r hr
  have hst := strip_rx r
  have hst1 := strip1 hst
  have hst2 := strip2 hst (strip_int (k := .i64) (n := 12))
  have hn := fun h => nodes_ok 12 r hr h (by omega)
  have hs := shapes_ok (depth r) r hr (Nat.le_refl _)
  unfold rightR
  have c1 := rx_cells r
  have c2 := rx_aggQ r
  have c3 := rx_noTup r
  generalize rxD r = d at *
  refine evF_inB (n := 15) (rs := [.tmp 2]) Tryz.func15 rfl rfl rfl rfl rfl rfl ?_
  repeat' (first | refine wz1 ?_ | refine wz2 ?_ | refine wz3 ?_ | refine wz4 ?_ | refine wz5 ?_ | refine wz6 ?_ | simp -dsimp (maxSteps:=999999) (disch:=omega) only[go_sem,simprocAttr, *])
  refine evB_plain bo32 rfl rfl hst2 (by simpa using hdeep) ?_
  by_cases h12 : depth r ≤ 12
  · rw [show deepR 12 r = depth r by omega]
    repeat' (first | refine wz1 ?_ | refine wz2 ?_ | refine wz3 ?_ | refine wz4 ?_ | refine wz5 ?_ | refine wz6 ?_ | simp -dsimp (maxSteps:=999999) (disch:=omega) only[go_sem,simprocAttr, *])
    refine evB_plain bo16 rfl rfl hst1 (hn h12) ?_
    by_cases h100 : nodesR r ≤ 100
    · repeat' (first | refine wz1 ?_ | refine wz2 ?_ | refine wz3 ?_ | refine wz4 ?_ | refine wz5 ?_ | refine wz6 ?_ | simp -dsimp (maxSteps:=999999) (disch:=omega) only[go_sem,simprocAttr, *])
      refine evB_plain bo33 rfl rfl hst1 hs ?_
      repeat' (first | refine wz1 ?_ | refine wz2 ?_ | refine wz3 ?_ | refine wz4 ?_ | refine wz5 ?_ | refine wz6 ?_ | simp -dsimp (maxSteps:=999999) (disch:=omega) only[go_sem,simprocAttr, *])
      try simp [h12, h100]
    · repeat' (first | refine wz1 ?_ | refine wz2 ?_ | refine wz3 ?_ | refine wz4 ?_ | refine wz5 ?_ | refine wz6 ?_ | simp -dsimp (maxSteps:=999999) (disch:=omega) only[go_sem,simprocAttr, *])
      try simp [h100]
  · rw [show deepR 12 r = 13 by omega]
    repeat' (first | refine wz1 ?_ | refine wz2 ?_ | refine wz3 ?_ | refine wz4 ?_ | refine wz5 ?_ | refine wz6 ?_ | simp -dsimp (maxSteps:=999999) (disch:=omega) only[go_sem,simprocAttr, *])
    try simp [h12]

theorem shape_ok (r : Rx) (hr : okR r) : PureF Tryz.prog A 67 [rxD r] (.bool (shape1 r.k r.s r.kids.length)) := by
  obtain ⟨k, s, l⟩ := r
  obtain ⟨hk0, hk1, hs0, hs1, hlen, hok⟩ := hr
  simp only [Rx.k, Rx.s, Rx.kids]
  refine evF_inB (n := 51) (rs := [.tmp 2]) Tryz.func67 rfl rfl rfl rfl rfl rfl ?_
  by_cases h0 : k = 0
  · subst h0
    by_cases hs : s = 0 <;> by_cases hl : l.length = 0
    · repeat' (first | refine wz1 ?_ | refine wz2 ?_ | refine wz3 ?_ | refine wz4 ?_ | refine wz5 ?_ | refine wz6 ?_ | simp -dsimp (maxSteps:=999999) (disch:=omega) only[go_sem,simprocAttr, *])
      refine wz7 (fun hb => ?_) (fun hb => ?_) <;> try simp -dsimp (maxSteps:=999999) (disch:=omega) only[go_sem,simprocAttr,decide_eq_true_eq,decide_eq_false_iff_not,Bool.not_eq_true,Bool.not_eq_false,Int.not_lt,Int.not_le] at hb
      repeat' (first | refine wz1 ?_ | refine wz2 ?_ | refine wz3 ?_ | refine wz4 ?_ | refine wz5 ?_ | refine wz6 ?_ | simp -dsimp (maxSteps:=999999) (disch:=omega) only[go_sem,simprocAttr, *])
      try simp -dsimp (maxSteps:=999999) (disch:=omega) only[go_sem,simprocAttr, *,shape1, beqN_true, beqN_false, eqZ_false, or_false1]
    · repeat' (first | refine wz1 ?_ | refine wz2 ?_ | refine wz3 ?_ | refine wz4 ?_ | refine wz5 ?_ | refine wz6 ?_ | simp -dsimp (maxSteps:=999999) (disch:=omega) only[go_sem,simprocAttr, *])
      refine wz7 (fun hb => ?_) (fun hb => ?_) <;> try simp -dsimp (maxSteps:=999999) (disch:=omega) only[go_sem,simprocAttr,decide_eq_true_eq,decide_eq_false_iff_not,Bool.not_eq_true,Bool.not_eq_false,Int.not_lt,Int.not_le] at hb
      repeat' (first | refine wz1 ?_ | refine wz2 ?_ | refine wz3 ?_ | refine wz4 ?_ | refine wz5 ?_ | refine wz6 ?_ | simp -dsimp (maxSteps:=999999) (disch:=omega) only[go_sem,simprocAttr, *])
      try simp -dsimp (maxSteps:=999999) (disch:=omega) only[go_sem,simprocAttr, *,shape1, beqN_true, beqN_false, eqZ_false, or_false1]
    · repeat' (first | refine wz1 ?_ | refine wz2 ?_ | refine wz3 ?_ | refine wz4 ?_ | refine wz5 ?_ | refine wz6 ?_ | simp -dsimp (maxSteps:=999999) (disch:=omega) only[go_sem,simprocAttr, *])
      refine wz7 (fun hb => ?_) (fun hb => ?_) <;> try simp -dsimp (maxSteps:=999999) (disch:=omega) only[go_sem,simprocAttr,decide_eq_true_eq,decide_eq_false_iff_not,Bool.not_eq_true,Bool.not_eq_false,Int.not_lt,Int.not_le] at hb
      repeat' (first | refine wz1 ?_ | refine wz2 ?_ | refine wz3 ?_ | refine wz4 ?_ | refine wz5 ?_ | refine wz6 ?_ | simp -dsimp (maxSteps:=999999) (disch:=omega) only[go_sem,simprocAttr, *])
      try simp -dsimp (maxSteps:=999999) (disch:=omega) only[go_sem,simprocAttr, *,shape1, beqN_true, beqN_false, eqZ_false, or_false1]
    · repeat' (first | refine wz1 ?_ | refine wz2 ?_ | refine wz3 ?_ | refine wz4 ?_ | refine wz5 ?_ | refine wz6 ?_ | simp -dsimp (maxSteps:=999999) (disch:=omega) only[go_sem,simprocAttr, *])
      refine wz7 (fun hb => ?_) (fun hb => ?_) <;> try simp -dsimp (maxSteps:=999999) (disch:=omega) only[go_sem,simprocAttr,decide_eq_true_eq,decide_eq_false_iff_not,Bool.not_eq_true,Bool.not_eq_false,Int.not_lt,Int.not_le] at hb
      repeat' (first | refine wz1 ?_ | refine wz2 ?_ | refine wz3 ?_ | refine wz4 ?_ | refine wz5 ?_ | refine wz6 ?_ | simp -dsimp (maxSteps:=999999) (disch:=omega) only[go_sem,simprocAttr, *])
      try simp -dsimp (maxSteps:=999999) (disch:=omega) only[go_sem,simprocAttr, *,shape1, beqN_true, beqN_false, eqZ_false, or_false1]
  by_cases h1 : k = 1
  · subst h1
    by_cases hs : s = 0 <;> by_cases hl : l.length = 0
    · repeat' (first | refine wz1 ?_ | refine wz2 ?_ | refine wz3 ?_ | refine wz4 ?_ | refine wz5 ?_ | refine wz6 ?_ | simp -dsimp (maxSteps:=999999) (disch:=omega) only[go_sem,simprocAttr, *])
      refine wz7 (fun hb => ?_) (fun hb => ?_) <;> try simp -dsimp (maxSteps:=999999) (disch:=omega) only[go_sem,simprocAttr,decide_eq_true_eq,decide_eq_false_iff_not,Bool.not_eq_true,Bool.not_eq_false,Int.not_lt,Int.not_le] at hb
      repeat' (first | refine wz1 ?_ | refine wz2 ?_ | refine wz3 ?_ | refine wz4 ?_ | refine wz5 ?_ | refine wz6 ?_ | simp -dsimp (maxSteps:=999999) (disch:=omega) only[go_sem,simprocAttr, *])
      refine wz7 (fun hb => ?_) (fun hb => ?_) <;> try simp -dsimp (maxSteps:=999999) (disch:=omega) only[go_sem,simprocAttr,decide_eq_true_eq,decide_eq_false_iff_not,Bool.not_eq_true,Bool.not_eq_false,Int.not_lt,Int.not_le] at hb
      repeat' (first | refine wz1 ?_ | refine wz2 ?_ | refine wz3 ?_ | refine wz4 ?_ | refine wz5 ?_ | refine wz6 ?_ | simp -dsimp (maxSteps:=999999) (disch:=omega) only[go_sem,simprocAttr, *])
      try simp -dsimp (maxSteps:=999999) (disch:=omega) only[go_sem,simprocAttr, *,shape1, beqN_true, beqN_false, eqZ_false, or_false1]
    · repeat' (first | refine wz1 ?_ | refine wz2 ?_ | refine wz3 ?_ | refine wz4 ?_ | refine wz5 ?_ | refine wz6 ?_ | simp -dsimp (maxSteps:=999999) (disch:=omega) only[go_sem,simprocAttr, *])
      refine wz7 (fun hb => ?_) (fun hb => ?_) <;> try simp -dsimp (maxSteps:=999999) (disch:=omega) only[go_sem,simprocAttr,decide_eq_true_eq,decide_eq_false_iff_not,Bool.not_eq_true,Bool.not_eq_false,Int.not_lt,Int.not_le] at hb
      repeat' (first | refine wz1 ?_ | refine wz2 ?_ | refine wz3 ?_ | refine wz4 ?_ | refine wz5 ?_ | refine wz6 ?_ | simp -dsimp (maxSteps:=999999) (disch:=omega) only[go_sem,simprocAttr, *])
      refine wz7 (fun hb => ?_) (fun hb => ?_) <;> try simp -dsimp (maxSteps:=999999) (disch:=omega) only[go_sem,simprocAttr,decide_eq_true_eq,decide_eq_false_iff_not,Bool.not_eq_true,Bool.not_eq_false,Int.not_lt,Int.not_le] at hb
      repeat' (first | refine wz1 ?_ | refine wz2 ?_ | refine wz3 ?_ | refine wz4 ?_ | refine wz5 ?_ | refine wz6 ?_ | simp -dsimp (maxSteps:=999999) (disch:=omega) only[go_sem,simprocAttr, *])
      try simp -dsimp (maxSteps:=999999) (disch:=omega) only[go_sem,simprocAttr, *,shape1, beqN_true, beqN_false, eqZ_false, or_false1]
    · repeat' (first | refine wz1 ?_ | refine wz2 ?_ | refine wz3 ?_ | refine wz4 ?_ | refine wz5 ?_ | refine wz6 ?_ | simp -dsimp (maxSteps:=999999) (disch:=omega) only[go_sem,simprocAttr, *])
      refine wz7 (fun hb => ?_) (fun hb => ?_) <;> try simp -dsimp (maxSteps:=999999) (disch:=omega) only[go_sem,simprocAttr,decide_eq_true_eq,decide_eq_false_iff_not,Bool.not_eq_true,Bool.not_eq_false,Int.not_lt,Int.not_le] at hb
      repeat' (first | refine wz1 ?_ | refine wz2 ?_ | refine wz3 ?_ | refine wz4 ?_ | refine wz5 ?_ | refine wz6 ?_ | simp -dsimp (maxSteps:=999999) (disch:=omega) only[go_sem,simprocAttr, *])
      refine wz7 (fun hb => ?_) (fun hb => ?_) <;> try simp -dsimp (maxSteps:=999999) (disch:=omega) only[go_sem,simprocAttr,decide_eq_true_eq,decide_eq_false_iff_not,Bool.not_eq_true,Bool.not_eq_false,Int.not_lt,Int.not_le] at hb
      repeat' (first | refine wz1 ?_ | refine wz2 ?_ | refine wz3 ?_ | refine wz4 ?_ | refine wz5 ?_ | refine wz6 ?_ | simp -dsimp (maxSteps:=999999) (disch:=omega) only[go_sem,simprocAttr, *])
      try simp -dsimp (maxSteps:=999999) (disch:=omega) only[go_sem,simprocAttr, *,shape1, beqN_true, beqN_false, eqZ_false, or_false1]
    · repeat' (first | refine wz1 ?_ | refine wz2 ?_ | refine wz3 ?_ | refine wz4 ?_ | refine wz5 ?_ | refine wz6 ?_ | simp -dsimp (maxSteps:=999999) (disch:=omega) only[go_sem,simprocAttr, *])
      refine wz7 (fun hb => ?_) (fun hb => ?_) <;> try simp -dsimp (maxSteps:=999999) (disch:=omega) only[go_sem,simprocAttr,decide_eq_true_eq,decide_eq_false_iff_not,Bool.not_eq_true,Bool.not_eq_false,Int.not_lt,Int.not_le] at hb
      repeat' (first | refine wz1 ?_ | refine wz2 ?_ | refine wz3 ?_ | refine wz4 ?_ | refine wz5 ?_ | refine wz6 ?_ | simp -dsimp (maxSteps:=999999) (disch:=omega) only[go_sem,simprocAttr, *])
      refine wz7 (fun hb => ?_) (fun hb => ?_) <;> try simp -dsimp (maxSteps:=999999) (disch:=omega) only[go_sem,simprocAttr,decide_eq_true_eq,decide_eq_false_iff_not,Bool.not_eq_true,Bool.not_eq_false,Int.not_lt,Int.not_le] at hb
      repeat' (first | refine wz1 ?_ | refine wz2 ?_ | refine wz3 ?_ | refine wz4 ?_ | refine wz5 ?_ | refine wz6 ?_ | simp -dsimp (maxSteps:=999999) (disch:=omega) only[go_sem,simprocAttr, *])
      try simp -dsimp (maxSteps:=999999) (disch:=omega) only[go_sem,simprocAttr, *,shape1, beqN_true, beqN_false, eqZ_false, or_false1]
  by_cases h2 : k = 2
  · subst h2
    by_cases hs : s = 0 <;> by_cases hl : 0 < l.length
    · repeat' (first | refine wz1 ?_ | refine wz2 ?_ | refine wz3 ?_ | refine wz4 ?_ | refine wz5 ?_ | refine wz6 ?_ | simp -dsimp (maxSteps:=999999) (disch:=omega) only[go_sem,simprocAttr, *])
      refine wz7 (fun hb => ?_) (fun hb => ?_) <;> try simp -dsimp (maxSteps:=999999) (disch:=omega) only[go_sem,simprocAttr,decide_eq_true_eq,decide_eq_false_iff_not,Bool.not_eq_true,Bool.not_eq_false,Int.not_lt,Int.not_le] at hb
      repeat' (first | refine wz1 ?_ | refine wz2 ?_ | refine wz3 ?_ | refine wz4 ?_ | refine wz5 ?_ | refine wz6 ?_ | simp -dsimp (maxSteps:=999999) (disch:=omega) only[go_sem,simprocAttr, *])
      refine wz7 (fun hb => ?_) (fun hb => ?_) <;> try simp -dsimp (maxSteps:=999999) (disch:=omega) only[go_sem,simprocAttr,decide_eq_true_eq,decide_eq_false_iff_not,Bool.not_eq_true,Bool.not_eq_false,Int.not_lt,Int.not_le] at hb
      repeat' (first | refine wz1 ?_ | refine wz2 ?_ | refine wz3 ?_ | refine wz4 ?_ | refine wz5 ?_ | refine wz6 ?_ | simp -dsimp (maxSteps:=999999) (disch:=omega) only[go_sem,simprocAttr, *])
      refine wz7 (fun hb => ?_) (fun hb => ?_) <;> try simp -dsimp (maxSteps:=999999) (disch:=omega) only[go_sem,simprocAttr,decide_eq_true_eq,decide_eq_false_iff_not,Bool.not_eq_true,Bool.not_eq_false,Int.not_lt,Int.not_le] at hb
      repeat' (first | refine wz1 ?_ | refine wz2 ?_ | refine wz3 ?_ | refine wz4 ?_ | refine wz5 ?_ | refine wz6 ?_ | simp -dsimp (maxSteps:=999999) (disch:=omega) only[go_sem,simprocAttr, *])
      refine wz7 (fun hb => ?_) (fun hb => ?_) <;> try simp -dsimp (maxSteps:=999999) (disch:=omega) only[go_sem,simprocAttr,decide_eq_true_eq,decide_eq_false_iff_not,Bool.not_eq_true,Bool.not_eq_false,Int.not_lt,Int.not_le] at hb
      repeat' (first | refine wz1 ?_ | refine wz2 ?_ | refine wz3 ?_ | refine wz4 ?_ | refine wz5 ?_ | refine wz6 ?_ | simp -dsimp (maxSteps:=999999) (disch:=omega) only[go_sem,simprocAttr, *])
      try simp -dsimp (maxSteps:=999999) (disch:=omega) only[go_sem,simprocAttr, *,shape1, beqN_true, beqN_false, eqZ_false, or_false1]
    · repeat' (first | refine wz1 ?_ | refine wz2 ?_ | refine wz3 ?_ | refine wz4 ?_ | refine wz5 ?_ | refine wz6 ?_ | simp -dsimp (maxSteps:=999999) (disch:=omega) only[go_sem,simprocAttr, *])
      refine wz7 (fun hb => ?_) (fun hb => ?_) <;> try simp -dsimp (maxSteps:=999999) (disch:=omega) only[go_sem,simprocAttr,decide_eq_true_eq,decide_eq_false_iff_not,Bool.not_eq_true,Bool.not_eq_false,Int.not_lt,Int.not_le] at hb
      repeat' (first | refine wz1 ?_ | refine wz2 ?_ | refine wz3 ?_ | refine wz4 ?_ | refine wz5 ?_ | refine wz6 ?_ | simp -dsimp (maxSteps:=999999) (disch:=omega) only[go_sem,simprocAttr, *])
      refine wz7 (fun hb => ?_) (fun hb => ?_) <;> try simp -dsimp (maxSteps:=999999) (disch:=omega) only[go_sem,simprocAttr,decide_eq_true_eq,decide_eq_false_iff_not,Bool.not_eq_true,Bool.not_eq_false,Int.not_lt,Int.not_le] at hb
      repeat' (first | refine wz1 ?_ | refine wz2 ?_ | refine wz3 ?_ | refine wz4 ?_ | refine wz5 ?_ | refine wz6 ?_ | simp -dsimp (maxSteps:=999999) (disch:=omega) only[go_sem,simprocAttr, *])
      refine wz7 (fun hb => ?_) (fun hb => ?_) <;> try simp -dsimp (maxSteps:=999999) (disch:=omega) only[go_sem,simprocAttr,decide_eq_true_eq,decide_eq_false_iff_not,Bool.not_eq_true,Bool.not_eq_false,Int.not_lt,Int.not_le] at hb
      repeat' (first | refine wz1 ?_ | refine wz2 ?_ | refine wz3 ?_ | refine wz4 ?_ | refine wz5 ?_ | refine wz6 ?_ | simp -dsimp (maxSteps:=999999) (disch:=omega) only[go_sem,simprocAttr, *])
      refine wz7 (fun hb => ?_) (fun hb => ?_) <;> try simp -dsimp (maxSteps:=999999) (disch:=omega) only[go_sem,simprocAttr,decide_eq_true_eq,decide_eq_false_iff_not,Bool.not_eq_true,Bool.not_eq_false,Int.not_lt,Int.not_le] at hb
      repeat' (first | refine wz1 ?_ | refine wz2 ?_ | refine wz3 ?_ | refine wz4 ?_ | refine wz5 ?_ | refine wz6 ?_ | simp -dsimp (maxSteps:=999999) (disch:=omega) only[go_sem,simprocAttr, *])
      try simp -dsimp (maxSteps:=999999) (disch:=omega) only[go_sem,simprocAttr, *,shape1, beqN_true, beqN_false, eqZ_false, or_false1]
    · repeat' (first | refine wz1 ?_ | refine wz2 ?_ | refine wz3 ?_ | refine wz4 ?_ | refine wz5 ?_ | refine wz6 ?_ | simp -dsimp (maxSteps:=999999) (disch:=omega) only[go_sem,simprocAttr, *])
      refine wz7 (fun hb => ?_) (fun hb => ?_) <;> try simp -dsimp (maxSteps:=999999) (disch:=omega) only[go_sem,simprocAttr,decide_eq_true_eq,decide_eq_false_iff_not,Bool.not_eq_true,Bool.not_eq_false,Int.not_lt,Int.not_le] at hb
      repeat' (first | refine wz1 ?_ | refine wz2 ?_ | refine wz3 ?_ | refine wz4 ?_ | refine wz5 ?_ | refine wz6 ?_ | simp -dsimp (maxSteps:=999999) (disch:=omega) only[go_sem,simprocAttr, *])
      refine wz7 (fun hb => ?_) (fun hb => ?_) <;> try simp -dsimp (maxSteps:=999999) (disch:=omega) only[go_sem,simprocAttr,decide_eq_true_eq,decide_eq_false_iff_not,Bool.not_eq_true,Bool.not_eq_false,Int.not_lt,Int.not_le] at hb
      repeat' (first | refine wz1 ?_ | refine wz2 ?_ | refine wz3 ?_ | refine wz4 ?_ | refine wz5 ?_ | refine wz6 ?_ | simp -dsimp (maxSteps:=999999) (disch:=omega) only[go_sem,simprocAttr, *])
      refine wz7 (fun hb => ?_) (fun hb => ?_) <;> try simp -dsimp (maxSteps:=999999) (disch:=omega) only[go_sem,simprocAttr,decide_eq_true_eq,decide_eq_false_iff_not,Bool.not_eq_true,Bool.not_eq_false,Int.not_lt,Int.not_le] at hb
      repeat' (first | refine wz1 ?_ | refine wz2 ?_ | refine wz3 ?_ | refine wz4 ?_ | refine wz5 ?_ | refine wz6 ?_ | simp -dsimp (maxSteps:=999999) (disch:=omega) only[go_sem,simprocAttr, *])
      refine wz7 (fun hb => ?_) (fun hb => ?_) <;> try simp -dsimp (maxSteps:=999999) (disch:=omega) only[go_sem,simprocAttr,decide_eq_true_eq,decide_eq_false_iff_not,Bool.not_eq_true,Bool.not_eq_false,Int.not_lt,Int.not_le] at hb
      repeat' (first | refine wz1 ?_ | refine wz2 ?_ | refine wz3 ?_ | refine wz4 ?_ | refine wz5 ?_ | refine wz6 ?_ | simp -dsimp (maxSteps:=999999) (disch:=omega) only[go_sem,simprocAttr, *])
      try simp -dsimp (maxSteps:=999999) (disch:=omega) only[go_sem,simprocAttr, *,shape1, beqN_true, beqN_false, eqZ_false, or_false1]
    · repeat' (first | refine wz1 ?_ | refine wz2 ?_ | refine wz3 ?_ | refine wz4 ?_ | refine wz5 ?_ | refine wz6 ?_ | simp -dsimp (maxSteps:=999999) (disch:=omega) only[go_sem,simprocAttr, *])
      refine wz7 (fun hb => ?_) (fun hb => ?_) <;> try simp -dsimp (maxSteps:=999999) (disch:=omega) only[go_sem,simprocAttr,decide_eq_true_eq,decide_eq_false_iff_not,Bool.not_eq_true,Bool.not_eq_false,Int.not_lt,Int.not_le] at hb
      repeat' (first | refine wz1 ?_ | refine wz2 ?_ | refine wz3 ?_ | refine wz4 ?_ | refine wz5 ?_ | refine wz6 ?_ | simp -dsimp (maxSteps:=999999) (disch:=omega) only[go_sem,simprocAttr, *])
      refine wz7 (fun hb => ?_) (fun hb => ?_) <;> try simp -dsimp (maxSteps:=999999) (disch:=omega) only[go_sem,simprocAttr,decide_eq_true_eq,decide_eq_false_iff_not,Bool.not_eq_true,Bool.not_eq_false,Int.not_lt,Int.not_le] at hb
      repeat' (first | refine wz1 ?_ | refine wz2 ?_ | refine wz3 ?_ | refine wz4 ?_ | refine wz5 ?_ | refine wz6 ?_ | simp -dsimp (maxSteps:=999999) (disch:=omega) only[go_sem,simprocAttr, *])
      refine wz7 (fun hb => ?_) (fun hb => ?_) <;> try simp -dsimp (maxSteps:=999999) (disch:=omega) only[go_sem,simprocAttr,decide_eq_true_eq,decide_eq_false_iff_not,Bool.not_eq_true,Bool.not_eq_false,Int.not_lt,Int.not_le] at hb
      repeat' (first | refine wz1 ?_ | refine wz2 ?_ | refine wz3 ?_ | refine wz4 ?_ | refine wz5 ?_ | refine wz6 ?_ | simp -dsimp (maxSteps:=999999) (disch:=omega) only[go_sem,simprocAttr, *])
      refine wz7 (fun hb => ?_) (fun hb => ?_) <;> try simp -dsimp (maxSteps:=999999) (disch:=omega) only[go_sem,simprocAttr,decide_eq_true_eq,decide_eq_false_iff_not,Bool.not_eq_true,Bool.not_eq_false,Int.not_lt,Int.not_le] at hb
      repeat' (first | refine wz1 ?_ | refine wz2 ?_ | refine wz3 ?_ | refine wz4 ?_ | refine wz5 ?_ | refine wz6 ?_ | simp -dsimp (maxSteps:=999999) (disch:=omega) only[go_sem,simprocAttr, *])
      try simp -dsimp (maxSteps:=999999) (disch:=omega) only[go_sem,simprocAttr, *,shape1, beqN_true, beqN_false, eqZ_false, or_false1]
  by_cases h3 : k = 3
  · subst h3
    by_cases hs : s = 0 <;> by_cases hl : 0 < l.length
    · repeat' (first | refine wz1 ?_ | refine wz2 ?_ | refine wz3 ?_ | refine wz4 ?_ | refine wz5 ?_ | refine wz6 ?_ | simp -dsimp (maxSteps:=999999) (disch:=omega) only[go_sem,simprocAttr, *])
      refine wz7 (fun hb => ?_) (fun hb => ?_) <;> try simp -dsimp (maxSteps:=999999) (disch:=omega) only[go_sem,simprocAttr,decide_eq_true_eq,decide_eq_false_iff_not,Bool.not_eq_true,Bool.not_eq_false,Int.not_lt,Int.not_le] at hb
      repeat' (first | refine wz1 ?_ | refine wz2 ?_ | refine wz3 ?_ | refine wz4 ?_ | refine wz5 ?_ | refine wz6 ?_ | simp -dsimp (maxSteps:=999999) (disch:=omega) only[go_sem,simprocAttr, *])
      refine wz7 (fun hb => ?_) (fun hb => ?_) <;> try simp -dsimp (maxSteps:=999999) (disch:=omega) only[go_sem,simprocAttr,decide_eq_true_eq,decide_eq_false_iff_not,Bool.not_eq_true,Bool.not_eq_false,Int.not_lt,Int.not_le] at hb
      repeat' (first | refine wz1 ?_ | refine wz2 ?_ | refine wz3 ?_ | refine wz4 ?_ | refine wz5 ?_ | refine wz6 ?_ | simp -dsimp (maxSteps:=999999) (disch:=omega) only[go_sem,simprocAttr, *])
      refine wz7 (fun hb => ?_) (fun hb => ?_) <;> try simp -dsimp (maxSteps:=999999) (disch:=omega) only[go_sem,simprocAttr,decide_eq_true_eq,decide_eq_false_iff_not,Bool.not_eq_true,Bool.not_eq_false,Int.not_lt,Int.not_le] at hb
      repeat' (first | refine wz1 ?_ | refine wz2 ?_ | refine wz3 ?_ | refine wz4 ?_ | refine wz5 ?_ | refine wz6 ?_ | simp -dsimp (maxSteps:=999999) (disch:=omega) only[go_sem,simprocAttr, *])
      refine wz7 (fun hb => ?_) (fun hb => ?_) <;> try simp -dsimp (maxSteps:=999999) (disch:=omega) only[go_sem,simprocAttr,decide_eq_true_eq,decide_eq_false_iff_not,Bool.not_eq_true,Bool.not_eq_false,Int.not_lt,Int.not_le] at hb
      repeat' (first | refine wz1 ?_ | refine wz2 ?_ | refine wz3 ?_ | refine wz4 ?_ | refine wz5 ?_ | refine wz6 ?_ | simp -dsimp (maxSteps:=999999) (disch:=omega) only[go_sem,simprocAttr, *])
      try simp -dsimp (maxSteps:=999999) (disch:=omega) only[go_sem,simprocAttr, *,shape1, beqN_true, beqN_false, eqZ_false, or_false1]
    · repeat' (first | refine wz1 ?_ | refine wz2 ?_ | refine wz3 ?_ | refine wz4 ?_ | refine wz5 ?_ | refine wz6 ?_ | simp -dsimp (maxSteps:=999999) (disch:=omega) only[go_sem,simprocAttr, *])
      refine wz7 (fun hb => ?_) (fun hb => ?_) <;> try simp -dsimp (maxSteps:=999999) (disch:=omega) only[go_sem,simprocAttr,decide_eq_true_eq,decide_eq_false_iff_not,Bool.not_eq_true,Bool.not_eq_false,Int.not_lt,Int.not_le] at hb
      repeat' (first | refine wz1 ?_ | refine wz2 ?_ | refine wz3 ?_ | refine wz4 ?_ | refine wz5 ?_ | refine wz6 ?_ | simp -dsimp (maxSteps:=999999) (disch:=omega) only[go_sem,simprocAttr, *])
      refine wz7 (fun hb => ?_) (fun hb => ?_) <;> try simp -dsimp (maxSteps:=999999) (disch:=omega) only[go_sem,simprocAttr,decide_eq_true_eq,decide_eq_false_iff_not,Bool.not_eq_true,Bool.not_eq_false,Int.not_lt,Int.not_le] at hb
      repeat' (first | refine wz1 ?_ | refine wz2 ?_ | refine wz3 ?_ | refine wz4 ?_ | refine wz5 ?_ | refine wz6 ?_ | simp -dsimp (maxSteps:=999999) (disch:=omega) only[go_sem,simprocAttr, *])
      refine wz7 (fun hb => ?_) (fun hb => ?_) <;> try simp -dsimp (maxSteps:=999999) (disch:=omega) only[go_sem,simprocAttr,decide_eq_true_eq,decide_eq_false_iff_not,Bool.not_eq_true,Bool.not_eq_false,Int.not_lt,Int.not_le] at hb
      repeat' (first | refine wz1 ?_ | refine wz2 ?_ | refine wz3 ?_ | refine wz4 ?_ | refine wz5 ?_ | refine wz6 ?_ | simp -dsimp (maxSteps:=999999) (disch:=omega) only[go_sem,simprocAttr, *])
      refine wz7 (fun hb => ?_) (fun hb => ?_) <;> try simp -dsimp (maxSteps:=999999) (disch:=omega) only[go_sem,simprocAttr,decide_eq_true_eq,decide_eq_false_iff_not,Bool.not_eq_true,Bool.not_eq_false,Int.not_lt,Int.not_le] at hb
      repeat' (first | refine wz1 ?_ | refine wz2 ?_ | refine wz3 ?_ | refine wz4 ?_ | refine wz5 ?_ | refine wz6 ?_ | simp -dsimp (maxSteps:=999999) (disch:=omega) only[go_sem,simprocAttr, *])
      try simp -dsimp (maxSteps:=999999) (disch:=omega) only[go_sem,simprocAttr, *,shape1, beqN_true, beqN_false, eqZ_false, or_false1]
    · repeat' (first | refine wz1 ?_ | refine wz2 ?_ | refine wz3 ?_ | refine wz4 ?_ | refine wz5 ?_ | refine wz6 ?_ | simp -dsimp (maxSteps:=999999) (disch:=omega) only[go_sem,simprocAttr, *])
      refine wz7 (fun hb => ?_) (fun hb => ?_) <;> try simp -dsimp (maxSteps:=999999) (disch:=omega) only[go_sem,simprocAttr,decide_eq_true_eq,decide_eq_false_iff_not,Bool.not_eq_true,Bool.not_eq_false,Int.not_lt,Int.not_le] at hb
      repeat' (first | refine wz1 ?_ | refine wz2 ?_ | refine wz3 ?_ | refine wz4 ?_ | refine wz5 ?_ | refine wz6 ?_ | simp -dsimp (maxSteps:=999999) (disch:=omega) only[go_sem,simprocAttr, *])
      refine wz7 (fun hb => ?_) (fun hb => ?_) <;> try simp -dsimp (maxSteps:=999999) (disch:=omega) only[go_sem,simprocAttr,decide_eq_true_eq,decide_eq_false_iff_not,Bool.not_eq_true,Bool.not_eq_false,Int.not_lt,Int.not_le] at hb
      repeat' (first | refine wz1 ?_ | refine wz2 ?_ | refine wz3 ?_ | refine wz4 ?_ | refine wz5 ?_ | refine wz6 ?_ | simp -dsimp (maxSteps:=999999) (disch:=omega) only[go_sem,simprocAttr, *])
      refine wz7 (fun hb => ?_) (fun hb => ?_) <;> try simp -dsimp (maxSteps:=999999) (disch:=omega) only[go_sem,simprocAttr,decide_eq_true_eq,decide_eq_false_iff_not,Bool.not_eq_true,Bool.not_eq_false,Int.not_lt,Int.not_le] at hb
      repeat' (first | refine wz1 ?_ | refine wz2 ?_ | refine wz3 ?_ | refine wz4 ?_ | refine wz5 ?_ | refine wz6 ?_ | simp -dsimp (maxSteps:=999999) (disch:=omega) only[go_sem,simprocAttr, *])
      refine wz7 (fun hb => ?_) (fun hb => ?_) <;> try simp -dsimp (maxSteps:=999999) (disch:=omega) only[go_sem,simprocAttr,decide_eq_true_eq,decide_eq_false_iff_not,Bool.not_eq_true,Bool.not_eq_false,Int.not_lt,Int.not_le] at hb
      repeat' (first | refine wz1 ?_ | refine wz2 ?_ | refine wz3 ?_ | refine wz4 ?_ | refine wz5 ?_ | refine wz6 ?_ | simp -dsimp (maxSteps:=999999) (disch:=omega) only[go_sem,simprocAttr, *])
      try simp -dsimp (maxSteps:=999999) (disch:=omega) only[go_sem,simprocAttr, *,shape1, beqN_true, beqN_false, eqZ_false, or_false1]
    · repeat' (first | refine wz1 ?_ | refine wz2 ?_ | refine wz3 ?_ | refine wz4 ?_ | refine wz5 ?_ | refine wz6 ?_ | simp -dsimp (maxSteps:=999999) (disch:=omega) only[go_sem,simprocAttr, *])
      refine wz7 (fun hb => ?_) (fun hb => ?_) <;> try simp -dsimp (maxSteps:=999999) (disch:=omega) only[go_sem,simprocAttr,decide_eq_true_eq,decide_eq_false_iff_not,Bool.not_eq_true,Bool.not_eq_false,Int.not_lt,Int.not_le] at hb
      repeat' (first | refine wz1 ?_ | refine wz2 ?_ | refine wz3 ?_ | refine wz4 ?_ | refine wz5 ?_ | refine wz6 ?_ | simp -dsimp (maxSteps:=999999) (disch:=omega) only[go_sem,simprocAttr, *])
      refine wz7 (fun hb => ?_) (fun hb => ?_) <;> try simp -dsimp (maxSteps:=999999) (disch:=omega) only[go_sem,simprocAttr,decide_eq_true_eq,decide_eq_false_iff_not,Bool.not_eq_true,Bool.not_eq_false,Int.not_lt,Int.not_le] at hb
      repeat' (first | refine wz1 ?_ | refine wz2 ?_ | refine wz3 ?_ | refine wz4 ?_ | refine wz5 ?_ | refine wz6 ?_ | simp -dsimp (maxSteps:=999999) (disch:=omega) only[go_sem,simprocAttr, *])
      refine wz7 (fun hb => ?_) (fun hb => ?_) <;> try simp -dsimp (maxSteps:=999999) (disch:=omega) only[go_sem,simprocAttr,decide_eq_true_eq,decide_eq_false_iff_not,Bool.not_eq_true,Bool.not_eq_false,Int.not_lt,Int.not_le] at hb
      repeat' (first | refine wz1 ?_ | refine wz2 ?_ | refine wz3 ?_ | refine wz4 ?_ | refine wz5 ?_ | refine wz6 ?_ | simp -dsimp (maxSteps:=999999) (disch:=omega) only[go_sem,simprocAttr, *])
      refine wz7 (fun hb => ?_) (fun hb => ?_) <;> try simp -dsimp (maxSteps:=999999) (disch:=omega) only[go_sem,simprocAttr,decide_eq_true_eq,decide_eq_false_iff_not,Bool.not_eq_true,Bool.not_eq_false,Int.not_lt,Int.not_le] at hb
      repeat' (first | refine wz1 ?_ | refine wz2 ?_ | refine wz3 ?_ | refine wz4 ?_ | refine wz5 ?_ | refine wz6 ?_ | simp -dsimp (maxSteps:=999999) (disch:=omega) only[go_sem,simprocAttr, *])
      try simp -dsimp (maxSteps:=999999) (disch:=omega) only[go_sem,simprocAttr, *,shape1, beqN_true, beqN_false, eqZ_false, or_false1]
  by_cases h4 : k = 4
  · subst h4
    by_cases hs : s = 0 <;> by_cases hl : l.length = 1
    · repeat' (first | refine wz1 ?_ | refine wz2 ?_ | refine wz3 ?_ | refine wz4 ?_ | refine wz5 ?_ | refine wz6 ?_ | simp -dsimp (maxSteps:=999999) (disch:=omega) only[go_sem,simprocAttr, *])
      refine wz7 (fun hb => ?_) (fun hb => ?_) <;> try simp -dsimp (maxSteps:=999999) (disch:=omega) only[go_sem,simprocAttr,decide_eq_true_eq,decide_eq_false_iff_not,Bool.not_eq_true,Bool.not_eq_false,Int.not_lt,Int.not_le] at hb
      repeat' (first | refine wz1 ?_ | refine wz2 ?_ | refine wz3 ?_ | refine wz4 ?_ | refine wz5 ?_ | refine wz6 ?_ | simp -dsimp (maxSteps:=999999) (disch:=omega) only[go_sem,simprocAttr, *])
      refine wz7 (fun hb => ?_) (fun hb => ?_) <;> try simp -dsimp (maxSteps:=999999) (disch:=omega) only[go_sem,simprocAttr,decide_eq_true_eq,decide_eq_false_iff_not,Bool.not_eq_true,Bool.not_eq_false,Int.not_lt,Int.not_le] at hb
      repeat' (first | refine wz1 ?_ | refine wz2 ?_ | refine wz3 ?_ | refine wz4 ?_ | refine wz5 ?_ | refine wz6 ?_ | simp -dsimp (maxSteps:=999999) (disch:=omega) only[go_sem,simprocAttr, *])
      refine wz7 (fun hb => ?_) (fun hb => ?_) <;> try simp -dsimp (maxSteps:=999999) (disch:=omega) only[go_sem,simprocAttr,decide_eq_true_eq,decide_eq_false_iff_not,Bool.not_eq_true,Bool.not_eq_false,Int.not_lt,Int.not_le] at hb
      repeat' (first | refine wz1 ?_ | refine wz2 ?_ | refine wz3 ?_ | refine wz4 ?_ | refine wz5 ?_ | refine wz6 ?_ | simp -dsimp (maxSteps:=999999) (disch:=omega) only[go_sem,simprocAttr, *])
      refine wz7 (fun hb => ?_) (fun hb => ?_) <;> try simp -dsimp (maxSteps:=999999) (disch:=omega) only[go_sem,simprocAttr,decide_eq_true_eq,decide_eq_false_iff_not,Bool.not_eq_true,Bool.not_eq_false,Int.not_lt,Int.not_le] at hb
      repeat' (first | refine wz1 ?_ | refine wz2 ?_ | refine wz3 ?_ | refine wz4 ?_ | refine wz5 ?_ | refine wz6 ?_ | simp -dsimp (maxSteps:=999999) (disch:=omega) only[go_sem,simprocAttr, *])
      refine wz7 (fun hb => ?_) (fun hb => ?_) <;> try simp -dsimp (maxSteps:=999999) (disch:=omega) only[go_sem,simprocAttr,decide_eq_true_eq,decide_eq_false_iff_not,Bool.not_eq_true,Bool.not_eq_false,Int.not_lt,Int.not_le] at hb
      repeat' (first | refine wz1 ?_ | refine wz2 ?_ | refine wz3 ?_ | refine wz4 ?_ | refine wz5 ?_ | refine wz6 ?_ | simp -dsimp (maxSteps:=999999) (disch:=omega) only[go_sem,simprocAttr, *])
      refine wz7 (fun hb => ?_) (fun hb => ?_) <;> try simp -dsimp (maxSteps:=999999) (disch:=omega) only[go_sem,simprocAttr,decide_eq_true_eq,decide_eq_false_iff_not,Bool.not_eq_true,Bool.not_eq_false,Int.not_lt,Int.not_le] at hb
      repeat' (first | refine wz1 ?_ | refine wz2 ?_ | refine wz3 ?_ | refine wz4 ?_ | refine wz5 ?_ | refine wz6 ?_ | simp -dsimp (maxSteps:=999999) (disch:=omega) only[go_sem,simprocAttr, *])
      try simp -dsimp (maxSteps:=999999) (disch:=omega) only[go_sem,simprocAttr, *,shape1, beqN_true, beqN_false, eqZ_false, or_false1]
    · repeat' (first | refine wz1 ?_ | refine wz2 ?_ | refine wz3 ?_ | refine wz4 ?_ | refine wz5 ?_ | refine wz6 ?_ | simp -dsimp (maxSteps:=999999) (disch:=omega) only[go_sem,simprocAttr, *])
      refine wz7 (fun hb => ?_) (fun hb => ?_) <;> try simp -dsimp (maxSteps:=999999) (disch:=omega) only[go_sem,simprocAttr,decide_eq_true_eq,decide_eq_false_iff_not,Bool.not_eq_true,Bool.not_eq_false,Int.not_lt,Int.not_le] at hb
      repeat' (first | refine wz1 ?_ | refine wz2 ?_ | refine wz3 ?_ | refine wz4 ?_ | refine wz5 ?_ | refine wz6 ?_ | simp -dsimp (maxSteps:=999999) (disch:=omega) only[go_sem,simprocAttr, *])
      refine wz7 (fun hb => ?_) (fun hb => ?_) <;> try simp -dsimp (maxSteps:=999999) (disch:=omega) only[go_sem,simprocAttr,decide_eq_true_eq,decide_eq_false_iff_not,Bool.not_eq_true,Bool.not_eq_false,Int.not_lt,Int.not_le] at hb
      repeat' (first | refine wz1 ?_ | refine wz2 ?_ | refine wz3 ?_ | refine wz4 ?_ | refine wz5 ?_ | refine wz6 ?_ | simp -dsimp (maxSteps:=999999) (disch:=omega) only[go_sem,simprocAttr, *])
      refine wz7 (fun hb => ?_) (fun hb => ?_) <;> try simp -dsimp (maxSteps:=999999) (disch:=omega) only[go_sem,simprocAttr,decide_eq_true_eq,decide_eq_false_iff_not,Bool.not_eq_true,Bool.not_eq_false,Int.not_lt,Int.not_le] at hb
      repeat' (first | refine wz1 ?_ | refine wz2 ?_ | refine wz3 ?_ | refine wz4 ?_ | refine wz5 ?_ | refine wz6 ?_ | simp -dsimp (maxSteps:=999999) (disch:=omega) only[go_sem,simprocAttr, *])
      refine wz7 (fun hb => ?_) (fun hb => ?_) <;> try simp -dsimp (maxSteps:=999999) (disch:=omega) only[go_sem,simprocAttr,decide_eq_true_eq,decide_eq_false_iff_not,Bool.not_eq_true,Bool.not_eq_false,Int.not_lt,Int.not_le] at hb
      repeat' (first | refine wz1 ?_ | refine wz2 ?_ | refine wz3 ?_ | refine wz4 ?_ | refine wz5 ?_ | refine wz6 ?_ | simp -dsimp (maxSteps:=999999) (disch:=omega) only[go_sem,simprocAttr, *])
      refine wz7 (fun hb => ?_) (fun hb => ?_) <;> try simp -dsimp (maxSteps:=999999) (disch:=omega) only[go_sem,simprocAttr,decide_eq_true_eq,decide_eq_false_iff_not,Bool.not_eq_true,Bool.not_eq_false,Int.not_lt,Int.not_le] at hb
      repeat' (first | refine wz1 ?_ | refine wz2 ?_ | refine wz3 ?_ | refine wz4 ?_ | refine wz5 ?_ | refine wz6 ?_ | simp -dsimp (maxSteps:=999999) (disch:=omega) only[go_sem,simprocAttr, *])
      refine wz7 (fun hb => ?_) (fun hb => ?_) <;> try simp -dsimp (maxSteps:=999999) (disch:=omega) only[go_sem,simprocAttr,decide_eq_true_eq,decide_eq_false_iff_not,Bool.not_eq_true,Bool.not_eq_false,Int.not_lt,Int.not_le] at hb
      repeat' (first | refine wz1 ?_ | refine wz2 ?_ | refine wz3 ?_ | refine wz4 ?_ | refine wz5 ?_ | refine wz6 ?_ | simp -dsimp (maxSteps:=999999) (disch:=omega) only[go_sem,simprocAttr, *])
      try simp -dsimp (maxSteps:=999999) (disch:=omega) only[go_sem,simprocAttr, *,shape1, beqN_true, beqN_false, eqZ_false, or_false1]
    · repeat' (first | refine wz1 ?_ | refine wz2 ?_ | refine wz3 ?_ | refine wz4 ?_ | refine wz5 ?_ | refine wz6 ?_ | simp -dsimp (maxSteps:=999999) (disch:=omega) only[go_sem,simprocAttr, *])
      refine wz7 (fun hb => ?_) (fun hb => ?_) <;> try simp -dsimp (maxSteps:=999999) (disch:=omega) only[go_sem,simprocAttr,decide_eq_true_eq,decide_eq_false_iff_not,Bool.not_eq_true,Bool.not_eq_false,Int.not_lt,Int.not_le] at hb
      repeat' (first | refine wz1 ?_ | refine wz2 ?_ | refine wz3 ?_ | refine wz4 ?_ | refine wz5 ?_ | refine wz6 ?_ | simp -dsimp (maxSteps:=999999) (disch:=omega) only[go_sem,simprocAttr, *])
      refine wz7 (fun hb => ?_) (fun hb => ?_) <;> try simp -dsimp (maxSteps:=999999) (disch:=omega) only[go_sem,simprocAttr,decide_eq_true_eq,decide_eq_false_iff_not,Bool.not_eq_true,Bool.not_eq_false,Int.not_lt,Int.not_le] at hb
      repeat' (first | refine wz1 ?_ | refine wz2 ?_ | refine wz3 ?_ | refine wz4 ?_ | refine wz5 ?_ | refine wz6 ?_ | simp -dsimp (maxSteps:=999999) (disch:=omega) only[go_sem,simprocAttr, *])
      refine wz7 (fun hb => ?_) (fun hb => ?_) <;> try simp -dsimp (maxSteps:=999999) (disch:=omega) only[go_sem,simprocAttr,decide_eq_true_eq,decide_eq_false_iff_not,Bool.not_eq_true,Bool.not_eq_false,Int.not_lt,Int.not_le] at hb
      repeat' (first | refine wz1 ?_ | refine wz2 ?_ | refine wz3 ?_ | refine wz4 ?_ | refine wz5 ?_ | refine wz6 ?_ | simp -dsimp (maxSteps:=999999) (disch:=omega) only[go_sem,simprocAttr, *])
      refine wz7 (fun hb => ?_) (fun hb => ?_) <;> try simp -dsimp (maxSteps:=999999) (disch:=omega) only[go_sem,simprocAttr,decide_eq_true_eq,decide_eq_false_iff_not,Bool.not_eq_true,Bool.not_eq_false,Int.not_lt,Int.not_le] at hb
      repeat' (first | refine wz1 ?_ | refine wz2 ?_ | refine wz3 ?_ | refine wz4 ?_ | refine wz5 ?_ | refine wz6 ?_ | simp -dsimp (maxSteps:=999999) (disch:=omega) only[go_sem,simprocAttr, *])
      refine wz7 (fun hb => ?_) (fun hb => ?_) <;> try simp -dsimp (maxSteps:=999999) (disch:=omega) only[go_sem,simprocAttr,decide_eq_true_eq,decide_eq_false_iff_not,Bool.not_eq_true,Bool.not_eq_false,Int.not_lt,Int.not_le] at hb
      repeat' (first | refine wz1 ?_ | refine wz2 ?_ | refine wz3 ?_ | refine wz4 ?_ | refine wz5 ?_ | refine wz6 ?_ | simp -dsimp (maxSteps:=999999) (disch:=omega) only[go_sem,simprocAttr, *])
      refine wz7 (fun hb => ?_) (fun hb => ?_) <;> try simp -dsimp (maxSteps:=999999) (disch:=omega) only[go_sem,simprocAttr,decide_eq_true_eq,decide_eq_false_iff_not,Bool.not_eq_true,Bool.not_eq_false,Int.not_lt,Int.not_le] at hb
      repeat' (first | refine wz1 ?_ | refine wz2 ?_ | refine wz3 ?_ | refine wz4 ?_ | refine wz5 ?_ | refine wz6 ?_ | simp -dsimp (maxSteps:=999999) (disch:=omega) only[go_sem,simprocAttr, *])
      try simp -dsimp (maxSteps:=999999) (disch:=omega) only[go_sem,simprocAttr, *,shape1, beqN_true, beqN_false, eqZ_false, or_false1]
    · repeat' (first | refine wz1 ?_ | refine wz2 ?_ | refine wz3 ?_ | refine wz4 ?_ | refine wz5 ?_ | refine wz6 ?_ | simp -dsimp (maxSteps:=999999) (disch:=omega) only[go_sem,simprocAttr, *])
      refine wz7 (fun hb => ?_) (fun hb => ?_) <;> try simp -dsimp (maxSteps:=999999) (disch:=omega) only[go_sem,simprocAttr,decide_eq_true_eq,decide_eq_false_iff_not,Bool.not_eq_true,Bool.not_eq_false,Int.not_lt,Int.not_le] at hb
      repeat' (first | refine wz1 ?_ | refine wz2 ?_ | refine wz3 ?_ | refine wz4 ?_ | refine wz5 ?_ | refine wz6 ?_ | simp -dsimp (maxSteps:=999999) (disch:=omega) only[go_sem,simprocAttr, *])
      refine wz7 (fun hb => ?_) (fun hb => ?_) <;> try simp -dsimp (maxSteps:=999999) (disch:=omega) only[go_sem,simprocAttr,decide_eq_true_eq,decide_eq_false_iff_not,Bool.not_eq_true,Bool.not_eq_false,Int.not_lt,Int.not_le] at hb
      repeat' (first | refine wz1 ?_ | refine wz2 ?_ | refine wz3 ?_ | refine wz4 ?_ | refine wz5 ?_ | refine wz6 ?_ | simp -dsimp (maxSteps:=999999) (disch:=omega) only[go_sem,simprocAttr, *])
      refine wz7 (fun hb => ?_) (fun hb => ?_) <;> try simp -dsimp (maxSteps:=999999) (disch:=omega) only[go_sem,simprocAttr,decide_eq_true_eq,decide_eq_false_iff_not,Bool.not_eq_true,Bool.not_eq_false,Int.not_lt,Int.not_le] at hb
      repeat' (first | refine wz1 ?_ | refine wz2 ?_ | refine wz3 ?_ | refine wz4 ?_ | refine wz5 ?_ | refine wz6 ?_ | simp -dsimp (maxSteps:=999999) (disch:=omega) only[go_sem,simprocAttr, *])
      refine wz7 (fun hb => ?_) (fun hb => ?_) <;> try simp -dsimp (maxSteps:=999999) (disch:=omega) only[go_sem,simprocAttr,decide_eq_true_eq,decide_eq_false_iff_not,Bool.not_eq_true,Bool.not_eq_false,Int.not_lt,Int.not_le] at hb
      repeat' (first | refine wz1 ?_ | refine wz2 ?_ | refine wz3 ?_ | refine wz4 ?_ | refine wz5 ?_ | refine wz6 ?_ | simp -dsimp (maxSteps:=999999) (disch:=omega) only[go_sem,simprocAttr, *])
      refine wz7 (fun hb => ?_) (fun hb => ?_) <;> try simp -dsimp (maxSteps:=999999) (disch:=omega) only[go_sem,simprocAttr,decide_eq_true_eq,decide_eq_false_iff_not,Bool.not_eq_true,Bool.not_eq_false,Int.not_lt,Int.not_le] at hb
      repeat' (first | refine wz1 ?_ | refine wz2 ?_ | refine wz3 ?_ | refine wz4 ?_ | refine wz5 ?_ | refine wz6 ?_ | simp -dsimp (maxSteps:=999999) (disch:=omega) only[go_sem,simprocAttr, *])
      refine wz7 (fun hb => ?_) (fun hb => ?_) <;> try simp -dsimp (maxSteps:=999999) (disch:=omega) only[go_sem,simprocAttr,decide_eq_true_eq,decide_eq_false_iff_not,Bool.not_eq_true,Bool.not_eq_false,Int.not_lt,Int.not_le] at hb
      repeat' (first | refine wz1 ?_ | refine wz2 ?_ | refine wz3 ?_ | refine wz4 ?_ | refine wz5 ?_ | refine wz6 ?_ | simp -dsimp (maxSteps:=999999) (disch:=omega) only[go_sem,simprocAttr, *])
      try simp -dsimp (maxSteps:=999999) (disch:=omega) only[go_sem,simprocAttr, *,shape1, beqN_true, beqN_false, eqZ_false, or_false1]
  by_cases h5 : k = 5
  · subst h5
    by_cases hs : s = 0 <;> by_cases hl : l.length = 1
    · repeat' (first | refine wz1 ?_ | refine wz2 ?_ | refine wz3 ?_ | refine wz4 ?_ | refine wz5 ?_ | refine wz6 ?_ | simp -dsimp (maxSteps:=999999) (disch:=omega) only[go_sem,simprocAttr, *])
      refine wz7 (fun hb => ?_) (fun hb => ?_) <;> try simp -dsimp (maxSteps:=999999) (disch:=omega) only[go_sem,simprocAttr,decide_eq_true_eq,decide_eq_false_iff_not,Bool.not_eq_true,Bool.not_eq_false,Int.not_lt,Int.not_le] at hb
      repeat' (first | refine wz1 ?_ | refine wz2 ?_ | refine wz3 ?_ | refine wz4 ?_ | refine wz5 ?_ | refine wz6 ?_ | simp -dsimp (maxSteps:=999999) (disch:=omega) only[go_sem,simprocAttr, *])
      refine wz7 (fun hb => ?_) (fun hb => ?_) <;> try simp -dsimp (maxSteps:=999999) (disch:=omega) only[go_sem,simprocAttr,decide_eq_true_eq,decide_eq_false_iff_not,Bool.not_eq_true,Bool.not_eq_false,Int.not_lt,Int.not_le] at hb
      repeat' (first | refine wz1 ?_ | refine wz2 ?_ | refine wz3 ?_ | refine wz4 ?_ | refine wz5 ?_ | refine wz6 ?_ | simp -dsimp (maxSteps:=999999) (disch:=omega) only[go_sem,simprocAttr, *])
      refine wz7 (fun hb => ?_) (fun hb => ?_) <;> try simp -dsimp (maxSteps:=999999) (disch:=omega) only[go_sem,simprocAttr,decide_eq_true_eq,decide_eq_false_iff_not,Bool.not_eq_true,Bool.not_eq_false,Int.not_lt,Int.not_le] at hb
      repeat' (first | refine wz1 ?_ | refine wz2 ?_ | refine wz3 ?_ | refine wz4 ?_ | refine wz5 ?_ | refine wz6 ?_ | simp -dsimp (maxSteps:=999999) (disch:=omega) only[go_sem,simprocAttr, *])
      refine wz7 (fun hb => ?_) (fun hb => ?_) <;> try simp -dsimp (maxSteps:=999999) (disch:=omega) only[go_sem,simprocAttr,decide_eq_true_eq,decide_eq_false_iff_not,Bool.not_eq_true,Bool.not_eq_false,Int.not_lt,Int.not_le] at hb
      repeat' (first | refine wz1 ?_ | refine wz2 ?_ | refine wz3 ?_ | refine wz4 ?_ | refine wz5 ?_ | refine wz6 ?_ | simp -dsimp (maxSteps:=999999) (disch:=omega) only[go_sem,simprocAttr, *])
      refine wz7 (fun hb => ?_) (fun hb => ?_) <;> try simp -dsimp (maxSteps:=999999) (disch:=omega) only[go_sem,simprocAttr,decide_eq_true_eq,decide_eq_false_iff_not,Bool.not_eq_true,Bool.not_eq_false,Int.not_lt,Int.not_le] at hb
      repeat' (first | refine wz1 ?_ | refine wz2 ?_ | refine wz3 ?_ | refine wz4 ?_ | refine wz5 ?_ | refine wz6 ?_ | simp -dsimp (maxSteps:=999999) (disch:=omega) only[go_sem,simprocAttr, *])
      refine wz7 (fun hb => ?_) (fun hb => ?_) <;> try simp -dsimp (maxSteps:=999999) (disch:=omega) only[go_sem,simprocAttr,decide_eq_true_eq,decide_eq_false_iff_not,Bool.not_eq_true,Bool.not_eq_false,Int.not_lt,Int.not_le] at hb
      repeat' (first | refine wz1 ?_ | refine wz2 ?_ | refine wz3 ?_ | refine wz4 ?_ | refine wz5 ?_ | refine wz6 ?_ | simp -dsimp (maxSteps:=999999) (disch:=omega) only[go_sem,simprocAttr, *])
      try simp -dsimp (maxSteps:=999999) (disch:=omega) only[go_sem,simprocAttr, *,shape1, beqN_true, beqN_false, eqZ_false, or_false1]
    · repeat' (first | refine wz1 ?_ | refine wz2 ?_ | refine wz3 ?_ | refine wz4 ?_ | refine wz5 ?_ | refine wz6 ?_ | simp -dsimp (maxSteps:=999999) (disch:=omega) only[go_sem,simprocAttr, *])
      refine wz7 (fun hb => ?_) (fun hb => ?_) <;> try simp -dsimp (maxSteps:=999999) (disch:=omega) only[go_sem,simprocAttr,decide_eq_true_eq,decide_eq_false_iff_not,Bool.not_eq_true,Bool.not_eq_false,Int.not_lt,Int.not_le] at hb
      repeat' (first | refine wz1 ?_ | refine wz2 ?_ | refine wz3 ?_ | refine wz4 ?_ | refine wz5 ?_ | refine wz6 ?_ | simp -dsimp (maxSteps:=999999) (disch:=omega) only[go_sem,simprocAttr, *])
      refine wz7 (fun hb => ?_) (fun hb => ?_) <;> try simp -dsimp (maxSteps:=999999) (disch:=omega) only[go_sem,simprocAttr,decide_eq_true_eq,decide_eq_false_iff_not,Bool.not_eq_true,Bool.not_eq_false,Int.not_lt,Int.not_le] at hb
      repeat' (first | refine wz1 ?_ | refine wz2 ?_ | refine wz3 ?_ | refine wz4 ?_ | refine wz5 ?_ | refine wz6 ?_ | simp -dsimp (maxSteps:=999999) (disch:=omega) only[go_sem,simprocAttr, *])
      refine wz7 (fun hb => ?_) (fun hb => ?_) <;> try simp -dsimp (maxSteps:=999999) (disch:=omega) only[go_sem,simprocAttr,decide_eq_true_eq,decide_eq_false_iff_not,Bool.not_eq_true,Bool.not_eq_false,Int.not_lt,Int.not_le] at hb
      repeat' (first | refine wz1 ?_ | refine wz2 ?_ | refine wz3 ?_ | refine wz4 ?_ | refine wz5 ?_ | refine wz6 ?_ | simp -dsimp (maxSteps:=999999) (disch:=omega) only[go_sem,simprocAttr, *])
      refine wz7 (fun hb => ?_) (fun hb => ?_) <;> try simp -dsimp (maxSteps:=999999) (disch:=omega) only[go_sem,simprocAttr,decide_eq_true_eq,decide_eq_false_iff_not,Bool.not_eq_true,Bool.not_eq_false,Int.not_lt,Int.not_le] at hb
      repeat' (first | refine wz1 ?_ | refine wz2 ?_ | refine wz3 ?_ | refine wz4 ?_ | refine wz5 ?_ | refine wz6 ?_ | simp -dsimp (maxSteps:=999999) (disch:=omega) only[go_sem,simprocAttr, *])
      refine wz7 (fun hb => ?_) (fun hb => ?_) <;> try simp -dsimp (maxSteps:=999999) (disch:=omega) only[go_sem,simprocAttr,decide_eq_true_eq,decide_eq_false_iff_not,Bool.not_eq_true,Bool.not_eq_false,Int.not_lt,Int.not_le] at hb
      repeat' (first | refine wz1 ?_ | refine wz2 ?_ | refine wz3 ?_ | refine wz4 ?_ | refine wz5 ?_ | refine wz6 ?_ | simp -dsimp (maxSteps:=999999) (disch:=omega) only[go_sem,simprocAttr, *])
      refine wz7 (fun hb => ?_) (fun hb => ?_) <;> try simp -dsimp (maxSteps:=999999) (disch:=omega) only[go_sem,simprocAttr,decide_eq_true_eq,decide_eq_false_iff_not,Bool.not_eq_true,Bool.not_eq_false,Int.not_lt,Int.not_le] at hb
      repeat' (first | refine wz1 ?_ | refine wz2 ?_ | refine wz3 ?_ | refine wz4 ?_ | refine wz5 ?_ | refine wz6 ?_ | simp -dsimp (maxSteps:=999999) (disch:=omega) only[go_sem,simprocAttr, *])
      try simp -dsimp (maxSteps:=999999) (disch:=omega) only[go_sem,simprocAttr, *,shape1, beqN_true, beqN_false, eqZ_false, or_false1]
    · repeat' (first | refine wz1 ?_ | refine wz2 ?_ | refine wz3 ?_ | refine wz4 ?_ | refine wz5 ?_ | refine wz6 ?_ | simp -dsimp (maxSteps:=999999) (disch:=omega) only[go_sem,simprocAttr, *])
      refine wz7 (fun hb => ?_) (fun hb => ?_) <;> try simp -dsimp (maxSteps:=999999) (disch:=omega) only[go_sem,simprocAttr,decide_eq_true_eq,decide_eq_false_iff_not,Bool.not_eq_true,Bool.not_eq_false,Int.not_lt,Int.not_le] at hb
      repeat' (first | refine wz1 ?_ | refine wz2 ?_ | refine wz3 ?_ | refine wz4 ?_ | refine wz5 ?_ | refine wz6 ?_ | simp -dsimp (maxSteps:=999999) (disch:=omega) only[go_sem,simprocAttr, *])
      refine wz7 (fun hb => ?_) (fun hb => ?_) <;> try simp -dsimp (maxSteps:=999999) (disch:=omega) only[go_sem,simprocAttr,decide_eq_true_eq,decide_eq_false_iff_not,Bool.not_eq_true,Bool.not_eq_false,Int.not_lt,Int.not_le] at hb
      repeat' (first | refine wz1 ?_ | refine wz2 ?_ | refine wz3 ?_ | refine wz4 ?_ | refine wz5 ?_ | refine wz6 ?_ | simp -dsimp (maxSteps:=999999) (disch:=omega) only[go_sem,simprocAttr, *])
      refine wz7 (fun hb => ?_) (fun hb => ?_) <;> try simp -dsimp (maxSteps:=999999) (disch:=omega) only[go_sem,simprocAttr,decide_eq_true_eq,decide_eq_false_iff_not,Bool.not_eq_true,Bool.not_eq_false,Int.not_lt,Int.not_le] at hb
      repeat' (first | refine wz1 ?_ | refine wz2 ?_ | refine wz3 ?_ | refine wz4 ?_ | refine wz5 ?_ | refine wz6 ?_ | simp -dsimp (maxSteps:=999999) (disch:=omega) only[go_sem,simprocAttr, *])
      refine wz7 (fun hb => ?_) (fun hb => ?_) <;> try simp -dsimp (maxSteps:=999999) (disch:=omega) only[go_sem,simprocAttr,decide_eq_true_eq,decide_eq_false_iff_not,Bool.not_eq_true,Bool.not_eq_false,Int.not_lt,Int.not_le] at hb
      repeat' (first | refine wz1 ?_ | refine wz2 ?_ | refine wz3 ?_ | refine wz4 ?_ | refine wz5 ?_ | refine wz6 ?_ | simp -dsimp (maxSteps:=999999) (disch:=omega) only[go_sem,simprocAttr, *])
      refine wz7 (fun hb => ?_) (fun hb => ?_) <;> try simp -dsimp (maxSteps:=999999) (disch:=omega) only[go_sem,simprocAttr,decide_eq_true_eq,decide_eq_false_iff_not,Bool.not_eq_true,Bool.not_eq_false,Int.not_lt,Int.not_le] at hb
      repeat' (first | refine wz1 ?_ | refine wz2 ?_ | refine wz3 ?_ | refine wz4 ?_ | refine wz5 ?_ | refine wz6 ?_ | simp -dsimp (maxSteps:=999999) (disch:=omega) only[go_sem,simprocAttr, *])
      refine wz7 (fun hb => ?_) (fun hb => ?_) <;> try simp -dsimp (maxSteps:=999999) (disch:=omega) only[go_sem,simprocAttr,decide_eq_true_eq,decide_eq_false_iff_not,Bool.not_eq_true,Bool.not_eq_false,Int.not_lt,Int.not_le] at hb
      repeat' (first | refine wz1 ?_ | refine wz2 ?_ | refine wz3 ?_ | refine wz4 ?_ | refine wz5 ?_ | refine wz6 ?_ | simp -dsimp (maxSteps:=999999) (disch:=omega) only[go_sem,simprocAttr, *])
      try simp -dsimp (maxSteps:=999999) (disch:=omega) only[go_sem,simprocAttr, *,shape1, beqN_true, beqN_false, eqZ_false, or_false1]
    · repeat' (first | refine wz1 ?_ | refine wz2 ?_ | refine wz3 ?_ | refine wz4 ?_ | refine wz5 ?_ | refine wz6 ?_ | simp -dsimp (maxSteps:=999999) (disch:=omega) only[go_sem,simprocAttr, *])
      refine wz7 (fun hb => ?_) (fun hb => ?_) <;> try simp -dsimp (maxSteps:=999999) (disch:=omega) only[go_sem,simprocAttr,decide_eq_true_eq,decide_eq_false_iff_not,Bool.not_eq_true,Bool.not_eq_false,Int.not_lt,Int.not_le] at hb
      repeat' (first | refine wz1 ?_ | refine wz2 ?_ | refine wz3 ?_ | refine wz4 ?_ | refine wz5 ?_ | refine wz6 ?_ | simp -dsimp (maxSteps:=999999) (disch:=omega) only[go_sem,simprocAttr, *])
      refine wz7 (fun hb => ?_) (fun hb => ?_) <;> try simp -dsimp (maxSteps:=999999) (disch:=omega) only[go_sem,simprocAttr,decide_eq_true_eq,decide_eq_false_iff_not,Bool.not_eq_true,Bool.not_eq_false,Int.not_lt,Int.not_le] at hb
      repeat' (first | refine wz1 ?_ | refine wz2 ?_ | refine wz3 ?_ | refine wz4 ?_ | refine wz5 ?_ | refine wz6 ?_ | simp -dsimp (maxSteps:=999999) (disch:=omega) only[go_sem,simprocAttr, *])
      refine wz7 (fun hb => ?_) (fun hb => ?_) <;> try simp -dsimp (maxSteps:=999999) (disch:=omega) only[go_sem,simprocAttr,decide_eq_true_eq,decide_eq_false_iff_not,Bool.not_eq_true,Bool.not_eq_false,Int.not_lt,Int.not_le] at hb
      repeat' (first | refine wz1 ?_ | refine wz2 ?_ | refine wz3 ?_ | refine wz4 ?_ | refine wz5 ?_ | refine wz6 ?_ | simp -dsimp (maxSteps:=999999) (disch:=omega) only[go_sem,simprocAttr, *])
      refine wz7 (fun hb => ?_) (fun hb => ?_) <;> try simp -dsimp (maxSteps:=999999) (disch:=omega) only[go_sem,simprocAttr,decide_eq_true_eq,decide_eq_false_iff_not,Bool.not_eq_true,Bool.not_eq_false,Int.not_lt,Int.not_le] at hb
      repeat' (first | refine wz1 ?_ | refine wz2 ?_ | refine wz3 ?_ | refine wz4 ?_ | refine wz5 ?_ | refine wz6 ?_ | simp -dsimp (maxSteps:=999999) (disch:=omega) only[go_sem,simprocAttr, *])
      refine wz7 (fun hb => ?_) (fun hb => ?_) <;> try simp -dsimp (maxSteps:=999999) (disch:=omega) only[go_sem,simprocAttr,decide_eq_true_eq,decide_eq_false_iff_not,Bool.not_eq_true,Bool.not_eq_false,Int.not_lt,Int.not_le] at hb
      repeat' (first | refine wz1 ?_ | refine wz2 ?_ | refine wz3 ?_ | refine wz4 ?_ | refine wz5 ?_ | refine wz6 ?_ | simp -dsimp (maxSteps:=999999) (disch:=omega) only[go_sem,simprocAttr, *])
      refine wz7 (fun hb => ?_) (fun hb => ?_) <;> try simp -dsimp (maxSteps:=999999) (disch:=omega) only[go_sem,simprocAttr,decide_eq_true_eq,decide_eq_false_iff_not,Bool.not_eq_true,Bool.not_eq_false,Int.not_lt,Int.not_le] at hb
      repeat' (first | refine wz1 ?_ | refine wz2 ?_ | refine wz3 ?_ | refine wz4 ?_ | refine wz5 ?_ | refine wz6 ?_ | simp -dsimp (maxSteps:=999999) (disch:=omega) only[go_sem,simprocAttr, *])
      try simp -dsimp (maxSteps:=999999) (disch:=omega) only[go_sem,simprocAttr, *,shape1, beqN_true, beqN_false, eqZ_false, or_false1]
  repeat' (first | refine wz1 ?_ | refine wz2 ?_ | refine wz3 ?_ | refine wz4 ?_ | refine wz5 ?_ | refine wz6 ?_ | simp -dsimp (maxSteps:=999999) (disch:=omega) only[go_sem,simprocAttr, *])
  refine wz7 (fun hb => ?_) (fun hb => ?_) <;> try simp -dsimp (maxSteps:=999999) (disch:=omega) only[go_sem,simprocAttr,decide_eq_true_eq,decide_eq_false_iff_not,Bool.not_eq_true,Bool.not_eq_false,Int.not_lt,Int.not_le] at hb
  repeat' (first | refine wz1 ?_ | refine wz2 ?_ | refine wz3 ?_ | refine wz4 ?_ | refine wz5 ?_ | refine wz6 ?_ | simp -dsimp (maxSteps:=999999) (disch:=omega) only[go_sem,simprocAttr, *])
  refine wz7 (fun hb => ?_) (fun hb => ?_) <;> try simp -dsimp (maxSteps:=999999) (disch:=omega) only[go_sem,simprocAttr,decide_eq_true_eq,decide_eq_false_iff_not,Bool.not_eq_true,Bool.not_eq_false,Int.not_lt,Int.not_le] at hb
  repeat' (first | refine wz1 ?_ | refine wz2 ?_ | refine wz3 ?_ | refine wz4 ?_ | refine wz5 ?_ | refine wz6 ?_ | simp -dsimp (maxSteps:=999999) (disch:=omega) only[go_sem,simprocAttr, *])
  refine wz7 (fun hb => ?_) (fun hb => ?_) <;> try simp -dsimp (maxSteps:=999999) (disch:=omega) only[go_sem,simprocAttr,decide_eq_true_eq,decide_eq_false_iff_not,Bool.not_eq_true,Bool.not_eq_false,Int.not_lt,Int.not_le] at hb
  repeat' (first | refine wz1 ?_ | refine wz2 ?_ | refine wz3 ?_ | refine wz4 ?_ | refine wz5 ?_ | refine wz6 ?_ | simp -dsimp (maxSteps:=999999) (disch:=omega) only[go_sem,simprocAttr, *])
  refine wz7 (fun hb => ?_) (fun hb => ?_) <;> try simp -dsimp (maxSteps:=999999) (disch:=omega) only[go_sem,simprocAttr,decide_eq_true_eq,decide_eq_false_iff_not,Bool.not_eq_true,Bool.not_eq_false,Int.not_lt,Int.not_le] at hb
  repeat' (first | refine wz1 ?_ | refine wz2 ?_ | refine wz3 ?_ | refine wz4 ?_ | refine wz5 ?_ | refine wz6 ?_ | simp -dsimp (maxSteps:=999999) (disch:=omega) only[go_sem,simprocAttr, *])
  refine wz7 (fun hb => ?_) (fun hb => ?_) <;> try simp -dsimp (maxSteps:=999999) (disch:=omega) only[go_sem,simprocAttr,decide_eq_true_eq,decide_eq_false_iff_not,Bool.not_eq_true,Bool.not_eq_false,Int.not_lt,Int.not_le] at hb
  repeat' (first | refine wz1 ?_ | refine wz2 ?_ | refine wz3 ?_ | refine wz4 ?_ | refine wz5 ?_ | refine wz6 ?_ | simp -dsimp (maxSteps:=999999) (disch:=omega) only[go_sem,simprocAttr, *])
  refine wz7 (fun hb => ?_) (fun hb => ?_) <;> try simp -dsimp (maxSteps:=999999) (disch:=omega) only[go_sem,simprocAttr,decide_eq_true_eq,decide_eq_false_iff_not,Bool.not_eq_true,Bool.not_eq_false,Int.not_lt,Int.not_le] at hb
  repeat' (first | refine wz1 ?_ | refine wz2 ?_ | refine wz3 ?_ | refine wz4 ?_ | refine wz5 ?_ | refine wz6 ?_ | simp -dsimp (maxSteps:=999999) (disch:=omega) only[go_sem,simprocAttr, *])
  try simp -dsimp (maxSteps:=999999) (disch:=omega) only[go_sem,simprocAttr, *,shape1, beqN_true, beqN_false, eqZ_false, or_false1]

/-! ### count -/
mutual
def cntR : Rx → Nat → Int → Bool × Int
  | .mk k s l, d, left => if left - 1 < 0 ∨ d = 0 ∨ shape1 k s l.length = false then (false, left - 1) else cntL l (d - 1) (left - 1)
def cntL : List Rx → Nat → Int → Bool × Int
  | [], _, left => (true, left)
  | r :: l, d, left => if (cntR r d left).1 then cntL l d (cntR r d left).2 else (false, (cntR r d left).2)
end
end Go.Proofs.W
end
/- Expressions: the program's count of nodes. -/
section
set_option maxHeartbeats 4000000
set_option linter.unusedVariables false
set_option linter.unusedSimpArgs false
namespace Go.Proofs.W
open Go Vm Go.Proofs.Zs7z

/-- a cell that is written; what lay elsewhere lies there still -/
structure PtrTo (H H' : Heap) (p : Nat) (v : D) : Prop where
  len : H.length ≤ H'.length
  at_ : hget H' p = .arr [v]
  low : ∀ k, k < H.length → k ≠ p → hget H' k = hget H k
theorem lt_of_hget {H : Heap} {p : Nat} {xs : List D} (h : hget H p = .arr xs) : p < H.length := hget_lt h (by simp)
theorem PtrTo.trans {H H1 H2 : Heap} {p : Nat} {v w : D} (h : PtrTo H H1 p v) (g : PtrTo H1 H2 p w) : PtrTo H H2 p w :=
  ⟨Nat.le_trans h.len g.len, g.at_, fun k hk hne => by rw [g.low k (Nat.lt_of_lt_of_le hk h.len) hne, h.low k hk hne]⟩
theorem wpB_heap {N : Nat} {c : Code} {e : Env} {H : Heap} {Q : Ex → Env → Heap → Prop} (I : Heap → Prop) (h0 : I H) (h : ∀ H, I H → WpB Tryz.prog A N c e H Q) : WpB Tryz.prog A N c e H Q := h H h0
theorem hget_new {H : Heap} {ob : Ob} {L : List Ob} : hget (H ++ ob :: L) H.length = ob := by
  rw [hget_app0]; rfl
mutual
theorem cnt_lo : ∀ (r : Rx) (d : Nat) (left : Int), 0 ≤ left → (cntR r d left).2 ≤ left ∧ ((cntR r d left).1 = true → 0 ≤ (cntR r d left).2)
  | .mk k s l, d, left, h => by
    simp only [cntR]
    split
    · exact ⟨by simp only; omega, fun h => by cases h⟩
    · rename_i hc
      have := cntL_lo l (d - 1) (left - 1) (by omega)
      exact ⟨by omega, this.2⟩
theorem cntL_lo : ∀ (l : List Rx) (d : Nat) (left : Int), 0 ≤ left → (cntL l d left).2 ≤ left ∧ ((cntL l d left).1 = true → 0 ≤ (cntL l d left).2)
  | [], d, left, h => by simp [cntL, h]
  | r :: l, d, left, h => by
    simp only [cntL]
    have h1 := cnt_lo r d left h
    split
    · rename_i hc
      have h2 := cntL_lo l d _ (h1.2 hc)
      exact ⟨by omega, h2.2⟩
    · rename_i hc
      exact ⟨h1.1, fun h => by cases h⟩
end
theorem count_ok : ∀ (d : Nat) (hd : d ≤ 1000) (r : Rx) (hr : okR r) (left : Int) (h0 : 0 ≤ left) (h1 : left ≤ 1000) (H : Heap) (p : Nat) (hp : hget H p = .arr [.int .i64 left]),
    EvF Tryz.prog A 54 [rxD r, .int .i64 d, .ptr p 0 0] H (fun x H' => x = .bool (cntR r d left).1 ∧ PtrTo H H' p (.int .i64 (cntR r d left).2)) (fun _ _ => False) := by
  intro d
  induction d with
  | zero =>
    intro hd r hr left h0 h1 H p hp
    have hlt := lt_of_hget hp
    have hsh := shape_ok r hr
    have hst := strip1 (strip_rx r)
    obtain ⟨k, s, l⟩ := r
    have hcn : cntR (.mk k s l) 0 left = (false, left - 1) := by simp [cntR]
    rw [hcn]
    have c1 := rx_cells (.mk k s l)
    have c2 := rx_aggQ (.mk k s l)
    have c3 := rx_noTup (.mk k s l)
    generalize rxD (.mk k s l) = d at *
    refine evF_inB (n := 41) (rs := [.tmp 6]) Tryz.func54 rfl rfl rfl rfl rfl rfl ?_
    (refine wz1 ?_; refine wz2 ?_; simp -dsimp (maxSteps:=999999) (disch:=omega) only[go_sem,simprocAttr, *])
    (refine wz1 ?_; refine wz2 ?_; simp -dsimp (maxSteps:=999999) (disch:=omega) only[go_sem,simprocAttr, *,hget_app_lt])
    refine wpB_heap (fun H1 => hget H1 p = .arr [.int .i64 (left - 1)] ∧ PtrTo H H1 p (.int .i64 (left - 1))) ?_ ?_
    · refine ⟨hget_set_eq (by simp; omega), ⟨by simp, hget_set_eq (by simp; omega), fun k hk hne => ?_⟩⟩
      rw [hget_set_ne (by omega), hget_app_lt hk]
    · rintro H1 ⟨hp1, hPt⟩
      by_cases hl : left - 1 < 0
      · repeat' (first | refine wz1 ?_ | refine wz2 ?_ | refine wz3 ?_ | refine wz4 ?_ | refine wz5 ?_ | refine wz6 ?_ | simp -dsimp (maxSteps:=999999) (disch:=omega) only[go_sem,simprocAttr, *])
        refine wz7 (fun hb => ?_) (fun hb => ?_) <;> try simp -dsimp (maxSteps:=999999) (disch:=omega) only[go_sem,simprocAttr,decide_eq_true_eq,decide_eq_false_iff_not,Bool.not_eq_true,Bool.not_eq_false,Int.not_lt,Int.not_le] at hb
        repeat' (first | refine wz1 ?_ | refine wz2 ?_ | refine wz3 ?_ | refine wz4 ?_ | refine wz5 ?_ | refine wz6 ?_ | simp -dsimp (maxSteps:=999999) (disch:=omega) only[go_sem,simprocAttr, *])
      · repeat' (first | refine wz1 ?_ | refine wz2 ?_ | refine wz3 ?_ | refine wz4 ?_ | refine wz5 ?_ | refine wz6 ?_ | simp -dsimp (maxSteps:=999999) (disch:=omega) only[go_sem,simprocAttr, *])
        refine wz7 (fun hb => ?_) (fun hb => ?_) <;> try simp -dsimp (maxSteps:=999999) (disch:=omega) only[go_sem,simprocAttr,decide_eq_true_eq,decide_eq_false_iff_not,Bool.not_eq_true,Bool.not_eq_false,Int.not_lt,Int.not_le] at hb
        repeat' (first | refine wz1 ?_ | refine wz2 ?_ | refine wz3 ?_ | refine wz4 ?_ | refine wz5 ?_ | refine wz6 ?_ | simp -dsimp (maxSteps:=999999) (disch:=omega) only[go_sem,simprocAttr, *])
  | succ d ih =>
    intro hd r hr left h0 h1 H p hp
    have hlt := lt_of_hget hp
    have hsh := shape_ok r hr
    have hst := strip1 (strip_rx r)
    obtain ⟨k, s, l⟩ := r
    obtain ⟨_, _, _, _, hlen, hok⟩ := hr
    simp only [Rx.k, Rx.s, Rx.kids] at hsh
    refine evF_inB (n := 41) (rs := [.tmp 6]) Tryz.func54 rfl rfl rfl rfl rfl rfl ?_
    (refine wz1 ?_; refine wz2 ?_; simp -dsimp (maxSteps:=999999) (disch:=omega) only[go_sem,simprocAttr, *])
    (refine wz1 ?_; refine wz2 ?_; simp -dsimp (maxSteps:=999999) (disch:=omega) only[go_sem,simprocAttr, *,hget_app_lt])
    refine wpB_heap (fun H1 => hget H1 p = .arr [.int .i64 (left - 1)] ∧ PtrTo H H1 p (.int .i64 (left - 1)) ∧ hget H1 H.length = .arr [rxD (.mk k s l)] ∧ H.length < H1.length) ?_ ?_
    · refine ⟨hget_set_eq (by simp; omega), ⟨by simp, hget_set_eq (by simp; omega), fun k hk hne => ?_⟩, ?_, by simp⟩
      · rw [hget_set_ne (by omega), hget_app_lt hk]
      · rw [hget_set_ne (by omega), hget_new]; rfl
    · rintro H1 ⟨hp1, hPt, hq, hql⟩
      by_cases hl : left - 1 < 0
      · have hcn : cntR (.mk k s l) (d + 1) left = (false, left - 1) := by simp only [cntR]; rw [if_pos (.inl hl)]
        rw [hcn]
        repeat' (first | refine wz1 ?_ | refine wz2 ?_ | refine wz3 ?_ | refine wz4 ?_ | refine wz5 ?_ | refine wz6 ?_ | simp -dsimp (maxSteps:=999999) (disch:=omega) only[go_sem,simprocAttr, *])
        refine wz7 (fun hb => ?_) (fun hb => ?_) <;> try simp -dsimp (maxSteps:=999999) (disch:=omega) only[go_sem,simprocAttr,decide_eq_true_eq,decide_eq_false_iff_not,Bool.not_eq_true,Bool.not_eq_false,Int.not_lt,Int.not_le] at hb
        repeat' (first | refine wz1 ?_ | refine wz2 ?_ | refine wz3 ?_ | refine wz4 ?_ | refine wz5 ?_ | refine wz6 ?_ | simp -dsimp (maxSteps:=999999) (disch:=omega) only[go_sem,simprocAttr, *])
      · cases hs : shape1 k s l.length with
        | false =>
          have hcn : cntR (.mk k s l) (d + 1) left = (false, left - 1) := by simp only [cntR]; rw [if_pos (.inr (.inr hs))]
          rw [hcn]
          rw [hs] at hsh
          repeat' (first | refine wz1 ?_ | refine wz2 ?_ | refine wz3 ?_ | refine wz4 ?_ | refine wz5 ?_ | refine wz6 ?_ | simp -dsimp (maxSteps:=999999) (disch:=omega) only[go_sem,simprocAttr, *])
          refine evB_plain bo67 rfl rfl hst hsh ?_
          simp -dsimp (maxSteps:=999999) (disch:=omega) only[go_sem,simprocAttr, *]
          refine wz7 (fun hb => ?_) (fun hb => ?_) <;> try simp -dsimp (maxSteps:=999999) (disch:=omega) only[go_sem,simprocAttr,decide_eq_true_eq,decide_eq_false_iff_not,Bool.not_eq_true,Bool.not_eq_false,Int.not_lt,Int.not_le] at hb
          repeat' (first | refine wz1 ?_ | refine wz2 ?_ | refine wz3 ?_ | refine wz4 ?_ | refine wz5 ?_ | refine wz6 ?_ | simp -dsimp (maxSteps:=999999) (disch:=omega) only[go_sem,simprocAttr, *])
        | true =>
          have hcn : cntR (.mk k s l) (d + 1) left = cntL l d (left - 1) := by simp only [cntR]; rw [if_neg (by simp [hs]; omega)]; rfl
          rw [hcn]
          rw [hs] at hsh
          clear hcn
          repeat' (first | refine wz1 ?_ | refine wz2 ?_ | refine wz3 ?_ | refine wz4 ?_ | refine wz5 ?_ | refine wz6 ?_ | simp -dsimp (maxSteps:=999999) (disch:=omega) only[go_sem,simprocAttr, *])
          refine evB_plain bo67 rfl rfl hst hsh ?_
          simp -dsimp (maxSteps:=999999) (disch:=omega) only[go_sem,simprocAttr, *]
          refine wz7 (fun hb => ?_) (fun hb => ?_) <;> try simp -dsimp (maxSteps:=999999) (disch:=omega) only[go_sem,simprocAttr,decide_eq_true_eq,decide_eq_false_iff_not,Bool.not_eq_true,Bool.not_eq_false,Int.not_lt,Int.not_le] at hb
          repeat' (first | refine wz1 ?_ | refine wz2 ?_ | refine wz3 ?_ | refine wz4 ?_ | refine wz5 ?_ | refine wz6 ?_ | simp -dsimp (maxSteps:=999999) (disch:=omega) only[go_sem,simprocAttr, *])
          refine wpB_loop (fun e H2 => ∃ j : Nat, j ≤ l.length ∧ e 1 = .int .i64 ((d : Int) + 1) ∧ e 2 = .ptr p 0 0 ∧ e 28 = .sl false (rxDs l) ∧ e 29 = .int .i64 l.length ∧ e 30 = .int .i64 j ∧ ∃ left' : Int, 0 ≤ left' ∧ left' ≤ 1000 ∧ PtrTo H H2 p (.int .i64 left') ∧ cntL l d (left - 1) = cntL (l.drop j) d left') (fun e H => l.length - natOf (e 30)) ?_ ?_
          · exact ⟨0, Nat.zero_le _, gs, gs, gs, gs, rfl, left - 1, by omega, by omega, hPt, by simp⟩
          · clear hq hql hPt hp1 hb hsh H1 
            rintro e H2 ⟨j, hj, e1, e2, e28, e29, e30, left', hl0, hl1, hPt, ha⟩ R hR
            repeat' (first | refine wz1 ?_ | refine wz2 ?_ | refine wz3 ?_ | refine wz4 ?_ | refine wz5 ?_ | refine wz6 ?_ | simp -dsimp (maxSteps:=999999) (disch:=omega) only[go_sem,simprocAttr, *])
            refine wz7 (fun hb2 => ?_) (fun hb2 => ?_) <;> try simp -dsimp (maxSteps:=999999) (disch:=omega) only[go_sem,simprocAttr,decide_eq_true_eq,decide_eq_false_iff_not,Bool.not_eq_true,Bool.not_eq_false,Int.not_lt,Int.not_le] at hb2
            · rw [List.drop_eq_getElem_cons hb2] at ha
              simp only [cntL] at ha
              have hst2 := strip1 (strip_rx l[j])
              have hkid := okL_get hok _ (List.getElem_mem hb2)
              have c1 := rx_cells l[j]
              have c2 := rx_aggQ l[j]
              have c3 := rx_noTup l[j]
              have hlt2 := lt_of_hget hPt.at_
              have hlow : ∀ (L : List Ob), hget (H2 ++ L) p = .arr [.int .i64 left'] := fun L => by rw [hget_app_lt hlt2, hPt.at_]
              have ihj := ih (by omega) l[j] hkid left' hl0 hl1
              have hcl := cnt_lo l[j] d left' hl0
              obtain ⟨b, lf, hc⟩ : ∃ b lf, cntR l[j] d left' = (b, lf) := ⟨_, _, rfl⟩
              rw [hc] at ha hcl
              simp only [hc] at ihj
              repeat' (first | refine wz1 ?_ | refine wz2 ?_ | refine wz3 ?_ | refine wz4 ?_ | refine wz5 ?_ | refine wz6 ?_ | simp -dsimp (maxSteps:=999999) (disch:=omega) only[go_sem,simprocAttr, *])
              refine evB_state bo54 rfl rfl (ihj _ p (hlow _)) ?_ (fun _ _ h => h.elim)
              rintro _ H3 ⟨rfl, hP3⟩
              have hP : PtrTo H H3 p (.int .i64 lf) := ⟨by have := hPt.len; have := hP3.len; simp at this; omega, hP3.at_, fun k hk hne => by
                have h1 := hPt.len
                rw [hP3.low k (by simp; omega) hne, hget_app_lt (by omega), hPt.low k hk hne]⟩
              cases b with
              | false =>
                simp only [Bool.false_eq_true, if_false] at ha
                rw [ha]
                simp -dsimp (maxSteps:=999999) (disch:=omega) only[go_sem,simprocAttr, *]
                refine wz7 (fun hb3 => ?_) (fun hb3 => ?_) <;> try simp -dsimp (maxSteps:=999999) (disch:=omega) only[go_sem,simprocAttr,decide_eq_true_eq,decide_eq_false_iff_not,Bool.not_eq_true,Bool.not_eq_false,Int.not_lt,Int.not_le] at hb3
                repeat' (first | refine wz1 ?_ | refine wz2 ?_ | refine wz3 ?_ | refine wz4 ?_ | refine wz5 ?_ | refine wz6 ?_ | simp -dsimp (maxSteps:=999999) (disch:=omega) only[go_sem,simprocAttr, *])
              | true =>
                simp only [if_true] at ha hcl
                simp -dsimp (maxSteps:=999999) (disch:=omega) only[go_sem,simprocAttr, *]
                refine wz7 (fun hb3 => ?_) (fun hb3 => ?_) <;> try simp -dsimp (maxSteps:=999999) (disch:=omega) only[go_sem,simprocAttr,decide_eq_true_eq,decide_eq_false_iff_not,Bool.not_eq_true,Bool.not_eq_false,Int.not_lt,Int.not_le] at hb3
                repeat' (first | refine wz1 ?_ | refine wz2 ?_ | refine wz3 ?_ | refine wz4 ?_ | refine wz5 ?_ | refine wz6 ?_ | simp -dsimp (maxSteps:=999999) (disch:=omega) only[go_sem,simprocAttr, *])
                refine hR _ _ ⟨j + 1, by omega, gs, gs, gs, gs, gs, lf, hcl.2 trivial, by omega, hP, ha⟩ ?_
                simp -dsimp (maxSteps:=999999) (disch:=omega) only[go_sem,simprocAttr, *,natOf_int]
            · rw [List.drop_eq_nil_of_le (by omega)] at ha
              rw [ha]
              repeat' (first | refine wz1 ?_ | refine wz2 ?_ | refine wz3 ?_ | refine wz4 ?_ | refine wz5 ?_ | refine wz6 ?_ | simp -dsimp (maxSteps:=999999) (disch:=omega) only[go_sem,simprocAttr, *])
              exact ⟨rfl, hPt⟩
end Go.Proofs.W
end
/- What is shown of the interpreter's run of a function that writes nothing holds of the function's calls. -/
section
set_option linter.unusedVariables false
namespace Vm
open Go
theorem calls_of_ev [Base] {P : Program} {A : Ann} {f : FuncId} {args : List D} {H : Heap} {d : D} (hmo : P.follows .mixedOrders = true) (hA : PrimOk P A) (hb : bodied P f = true) (h : EvF P A f args H (fun d' H' => d' = d ∧ H' = H) (fun _ _ => False))
    {ρ : Rho} {im : Im} {w : World} {vs : List Value} (hR : Rel ρ im H w) (hvs : RepA ρ H.length im vs args) : Calls P f ⟨vs⟩ w (OutR ρ im H w (.ok d H)) := by
  obtain ⟨k, res, h1, h2⟩ := h
  cases res with
  | pan d' H' => exact h2.elim
  | ok d' H' =>
    obtain ⟨rfl, rfl⟩ := h2
    exact (runF_ok hmo hA k f args _ _ h1 ρ im w vs hR hvs).calls hb
mutual
/-- the same plain data? -/
def eqPl : D → D → Bool
  | .bool a, .bool b => a == b
  | .int k a, .int k' b => decide (k = k') && a == b
  | .str a, .str b => a == b
  | .nilp, .nilp | .nilm, .nilm | .niln, .niln | .nili, .nili => true
  | .sl f a, .sl g b => f == g && eqPlL a b
  | .agg a, .agg b => eqPlL a b
  | .tup a, .tup b => eqPlL a b
  | _, _ => false
def eqPlL : List D → List D → Bool
  | [], [] => true
  | x :: r, y :: s => eqPl x y && eqPlL r s
  | _, _ => false
end
mutual
theorem eqPl_eq : ∀ {a b : D}, eqPl a b = true → a = b
  | .bool a, b, h => by cases b <;> simp_all [eqPl]
  | .int k a, b, h => by cases b <;> simp_all [eqPl]
  | .str a, b, h => by cases b <;> simp_all [eqPl]
  | .nilp, b, h => by cases b <;> simp_all [eqPl]
  | .nilm, b, h => by cases b <;> simp_all [eqPl]
  | .niln, b, h => by cases b <;> simp_all [eqPl]
  | .nili, b, h => by cases b <;> simp_all [eqPl]
  | .sl f a, b, h => by
    cases b <;> simp only [eqPl] at h <;> first | (cases h; done) | skip
    simp only [Bool.and_eq_true, beq_iff_eq] at h
    rw [h.1, eqPlL_eq h.2]
  | .agg a, b, h => by
    cases b <;> simp only [eqPl] at h <;> first | (cases h; done) | skip
    rw [eqPlL_eq h]
  | .tup a, b, h => by
    cases b <;> simp only [eqPl] at h <;> first | (cases h; done) | skip
    rw [eqPlL_eq h]
  | .ptr .., b, h | .ept .., b, h | .vec .., b, h | .map _, b, h | .fn .., b, h | .bfn .., b, h | .iface .., b, h | .yld _, b, h => by simp [eqPl] at h
theorem eqPlL_eq : ∀ {a b : List D}, eqPlL a b = true → a = b
  | [], b, h => by cases b <;> simp_all [eqPlL]
  | x :: r, b, h => by
    cases b with
    | nil => simp [eqPlL] at h
    | cons y s =>
      simp only [eqPlL, Bool.and_eq_true] at h
      rw [eqPl_eq h.1, eqPlL_eq h.2]
end
end Vm
end
/- Lists of numbers. -/
section
set_option maxHeartbeats 4000000
set_option linter.unusedVariables false
set_option linter.unusedSimpArgs false
namespace Go.Proofs.W
open Go Vm Go.Proofs.Zs7z

def isD (l : List Int) : D := .sl false (l.map (.int .i64))
theorem strip_ints (l : List Int) : stripL (l.map (.int .i64)) = some (l.map (.int .i64)) := by
  induction l with
  | nil => rfl
  | cons q r ih => simp [stripL, ih, strip]
theorem strip_is (l : List Int) : strip (isD l) = some (isD l) := by simp [isD, strip, strip_ints]
theorem take_succ' {α : Type} {l : List α} {j : Nat} (h : j < l.length) : l.take (j + 1) = l.take j ++ [l[j]] := by rw [List.take_add_one, List.getElem?_eq_getElem h]; rfl
theorem headInts (l : List Int) : headSize 1 (l.map (D.int .i64)) = true := by cases l <;> rfl
/-- all numbers from one on -/
def allN (p : Nat → Bool) : Nat → Nat → Bool
  | _, 0 => true
  | j, m + 1 => p j && allN p (j + 1) m
theorem allN_iff {p : Nat → Bool} : ∀ {m j : Nat}, allN p j m = true ↔ ∀ i, j ≤ i → i < j + m → p i = true
  | 0, j => by simp [allN]; intro i h1 h2; omega
  | m + 1, j => by
    simp only [allN, Bool.and_eq_true, allN_iff (m := m)]
    constructor
    · rintro ⟨h0, h⟩ i h1 h2
      by_cases e : i = j
      · subst e; exact h0
      · exact h i (by omega) (by omega)
    · intro h
      exact ⟨h j (Nat.le_refl _) (by omega), fun i h1 h2 => h i (by omega) (by omega)⟩
theorem strip3 {a b c : D} (h : strip a = some a) (k : strip b = some b) (j : strip c = some c) : stripL [a, b, c] = some [a, b, c] := by simp [stripL, h, k, j]
theorem ex_at {α : Type} {l : List α} {i : Nat} (d : α) (h : i < l.length) : ∃ x, l[i]? = some x ∧ l.getD i d = x := ⟨l[i], List.getElem?_eq_getElem h, by simp [List.getD, h]⟩
/-- kept out of simp's sight -/
def Hid (p : Prop) : Prop := p
theorem allL_drop {p : Int → Bool} {l : List Int} {j : Nat} (h : j < l.length) : (l.drop j).all p = (p l[j] && (l.drop (j + 1)).all p) := by
  rw [List.drop_eq_getElem_cons h]; rfl
end Go.Proofs.W
end
/- Lists of numbers, for every chapter that does not speak of rules: as the program has them. -/
section
set_option maxHeartbeats 4000000
set_option linter.unusedVariables false
set_option linter.unusedSimpArgs false
namespace Go.Proofs.W
open Go Vm Go.Proofs.Zs7z

theorem app_int {m : Nat} {d : D} {H : Heap} {l : List Int} (h : VecAt m d H (l.map (.int .i64))) (x : Int) (hl : l.length ≤ 1000000) : ∃ d' H', appendD Tryz.prog 26 (H ++ [Ob.arr [.int .i64 x]]) d (.vec H.length 0 1) = some (d', H') ∧ VecAt m d' H' ((l ++ [x]).map (.int .i64)) ∧ Same m H H' := by
  have := VecAt.append el26 sz3 by3 zr3 rfl (by decide) h (q := .int .i64 x) rfl rfl (headInts l) (by simp; omega)
  simpa using this
end Go.Proofs.W
end
/- Sets of states as texts of two bytes each; the map from such texts to numbers. -/
section
set_option maxHeartbeats 4000000
set_option linter.unusedVariables false
set_option linter.unusedSimpArgs false
namespace Go.Proofs.W
open Go Vm Go.Proofs.Zs7z

/-- a set of states as a text -/
def keyS : List Int → List UInt8
  | [] => []
  | s :: l => UInt8.ofNat (s.toNat / 256) :: UInt8.ofNat (s.toNat % 256) :: keyS l
def small (l : List Int) : Prop := ∀ s ∈ l, 0 ≤ s ∧ s < 65536
theorem byte_inj {a b : Nat} (ha : a < 256) (hb : b < 256) (h : UInt8.ofNat a = UInt8.ofNat b) : a = b := by
  have := congrArg UInt8.toNat h
  simpa [UInt8.toNat_ofNat', Nat.mod_eq_of_lt ha, Nat.mod_eq_of_lt hb] using this
theorem keyS_inj : ∀ {a b : List Int}, small a → small b → keyS a = keyS b → a = b
  | [], [], _, _, _ => rfl
  | [], _ :: _, _, _, h => by simp [keyS] at h
  | _ :: _, [], _, _, h => by simp [keyS] at h
  | x :: a, y :: b, ha, hb, h => by
    simp only [keyS, List.cons.injEq] at h
    obtain ⟨h1, h2, h3⟩ := h
    have hx := ha x (List.mem_cons_self ..)
    have hy := hb y (List.mem_cons_self ..)
    have e1 := byte_inj (by omega) (by omega) h1
    have e2 := byte_inj (by omega) (by omega) h2
    have e3 := keyS_inj (fun s hs => ha s (List.mem_cons_of_mem _ hs)) (fun s hs => hb s (List.mem_cons_of_mem _ hs)) h3
    have : x = y := by omega
    rw [this, e3]
/-- the map's entries, the first set's number being so much -/
def ents : Nat → List (List Int) → List (D × D)
  | _, [] => []
  | i, l :: ls => (.str (keyS l), .int .i64 i) :: ents (i + 1) ls
theorem ents_app : ∀ (ls : List (List Int)) (i : Nat) (l : List Int), ents i (ls ++ [l]) = ents i ls ++ [(.str (keyS l), .int .i64 (i + ls.length : Nat))]
  | [], i, l => by simp [ents]
  | q :: ls, i, l => by
    simp only [List.cons_append, ents, ents_app ls (i + 1) l, List.length_cons]
    rw [show i + 1 + ls.length = i + (ls.length + 1) by omega]
theorem eq_str (a b : List UInt8) : eqSs (D.str a).cells (D.str b).cells = some (decide (a = b)) := by
  simp [D.cells, eqSs, eqS]
  by_cases h : a = b
  · simp [h]
  · simp [h]
/-- where a set stands -/
def placeS (l : List Int) : Nat → List (List Int) → Option Nat
  | _, [] => none
  | i, q :: ls => if l = q then some i else placeS l (i + 1) ls
theorem place_ge {l : List Int} : ∀ {ls : List (List Int)} {i j : Nat}, placeS l i ls = some j → i ≤ j
  | [], _, _, h => by cases h
  | q :: ls, i, j, h => by
    simp only [placeS] at h
    split at h
    · cases h; exact Nat.le_refl _
    · exact Nat.le_trans (Nat.le_succ _) (place_ge h)
theorem find_ents {l : List Int} (hl : small l) : ∀ (ls : List (List Int)) (i m : Nat), (∀ q ∈ ls, small q) → findE (.str (keyS l)) (ents i ls) m = some ((placeS l i ls).map fun j => (m + (j - i), .int .i64 j))
  | [], i, m, _ => rfl
  | q :: ls, i, m, h => by
    have hq := h q (List.mem_cons_self ..)
    have ih := find_ents hl ls (i + 1) (m + 1) (fun x hx => h x (List.mem_cons_of_mem _ hx))
    simp only [ents, findE, aggQ, if_true, eq_str, Option.bind_some, placeS]
    by_cases e : l = q
    · subst e; simp
    · have ek : keyS l ≠ keyS q := fun hk => e (keyS_inj hl hq hk)
      simp only [ek, decide_false, Bool.false_eq_true, if_false, e, ih]
      congr 1
      cases hp : placeS l (i + 1) ls with
      | none => rfl
      | some j =>
        have : i + 1 ≤ j := place_ge hp
        simp only [Option.map_some]
        rw [show m + 1 + (j - (i + 1)) = m + (j - i) by omega]
theorem place_at {l : List Int} : ∀ {ls : List (List Int)} {i j : Nat}, placeS l i ls = some j → ls[j - i]? = some l
  | [], _, _, h => by cases h
  | q :: ls, i, j, h => by
    simp only [placeS] at h
    split at h
    · rename_i e; cases h; subst e; simp
    · have := place_ge h
      have ih := place_at h
      rw [show j - i = (j - (i + 1)) + 1 by omega]
      simpa using ih
/-- a set's number, it being put behind if it is new -/
def addS (ls : List (List Int)) (l : List Int) : Int × List (List Int) := if l = [] then (-1, ls) else match placeS l 0 ls with
  | some j => (j, ls)
  | none => (ls.length, ls ++ [l])
theorem addS_at {ls : List (List Int)} {l : List Int} (h : l ≠ []) : ∃ j : Nat, (addS ls l).1 = j ∧ (addS ls l).2[j]? = some l := by
  unfold addS
  rw [if_neg h]
  cases hp : placeS l 0 ls with
  | some j => exact ⟨j, rfl, by simpa using place_at hp⟩
  | none => exact ⟨ls.length, rfl, by simp⟩
theorem addS_old {ls : List (List Int)} {l q : List Int} {j : Nat} (h : ls[j]? = some q) : (addS ls l).2[j]? = some q := by
  have hj := (List.getElem?_eq_some_iff.1 h).1
  unfold addS
  split
  · exact h
  · split
    · exact h
    · simpa [List.getElem?_append_left hj] using h
end Go.Proofs.W
end
/- Machines with free steps: what they are as data; whether one may be. -/
section
set_option maxHeartbeats 4000000
set_option linter.unusedVariables false
set_option linter.unusedSimpArgs false
namespace Go.Proofs.W
open Go Vm Go.Proofs.Zs7z

structure Nfa where
  free : List (List Int)
  set : List Int
  to : List Int
  rule : List Int
def u16D (l : List Int) : D := .sl false (l.map (.int .u16))
def issD (l : List (List Int)) : D := .sl false (l.map isD)
def nfaD (n : Nfa) : D := .agg [issD n.free, u16D n.set, isD n.to, isD n.rule]
theorem strip_u16s (l : List Int) : stripL (l.map (.int .u16)) = some (l.map (.int .u16)) := by
  induction l with
  | nil => rfl
  | cons q r ih => simp [stripL, ih, strip]
theorem strip_iss (l : List (List Int)) : stripL (l.map isD) = some (l.map isD) := by
  induction l with
  | nil => rfl
  | cons q r ih => simp [stripL, ih, strip_is]
theorem strip_issD (l : List (List Int)) : strip (issD l) = some (issD l) := by simp [issD, strip, strip_iss]
theorem strip_u16D (l : List Int) : strip (u16D l) = some (u16D l) := by simp [u16D, strip, strip_u16s]
theorem strip_nfa (n : Nfa) : strip (nfaD n) = some (nfaD n) := by simp [nfaD, strip, stripL, strip_issD, strip_u16D, strip_is]
/-- is it a state? -/
def isS (k : Nat) (s : Int) : Bool := decide (0 ≤ s) && decide (s < k)
theorem isS_iff {k : Nat} {s : Int} : isS k s = true ↔ 0 ≤ s ∧ s < k := by simp [isS]
def rowOk (n : Nfa) (i : Nat) : Bool :=
  !(decide (n.set.getD i 0 ≠ 0) && !isS n.set.length (n.to.getD i 0)) && decide (-1 ≤ n.rule.getD i 0) && decide (n.rule.getD i 0 < 16) && (n.free.getD i []).all (isS n.set.length)
def rightN (n : Nfa) : Bool := decide (1 ≤ n.set.length ∧ n.set.length ≤ 3300 ∧ n.free.length = n.set.length ∧ n.to.length = n.set.length ∧ n.rule.length = n.set.length) && allN (rowOk n) 0 n.set.length
theorem right1_ok (s : Int) (k r : Nat) (H : Heap) (hg : hget H r = .arr [.int .i64 k]) : EvF Tryz.prog A 56 [.int .i64 s, .ptr r 0 0] H (fun d H' => d = .bool (isS k s) ∧ H' = H) (fun _ _ => False) := by
  refine evF_inB (n := 11) (rs := [.tmp 3]) Tryz.func56 rfl rfl rfl rfl rfl rfl ?_
  by_cases h0 : 0 ≤ s
  · by_cases h1 : s < k
    · repeat' (first | refine wz1 ?_ | refine wz2 ?_ | refine wz3 ?_ | refine wz4 ?_ | refine wz5 ?_ | refine wz6 ?_ | simp -dsimp (maxSteps:=999999) (disch:=omega) only[go_sem,simprocAttr, *,isS])
    · repeat' (first | refine wz1 ?_ | refine wz2 ?_ | refine wz3 ?_ | refine wz4 ?_ | refine wz5 ?_ | refine wz6 ?_ | simp -dsimp (maxSteps:=999999) (disch:=omega) only[go_sem,simprocAttr, *,isS])
  · repeat' (first | refine wz1 ?_ | refine wz2 ?_ | refine wz3 ?_ | refine wz4 ?_ | refine wz5 ?_ | refine wz6 ?_ | simp -dsimp (maxSteps:=999999) (disch:=omega) only[go_sem,simprocAttr, *,isS])
theorem nright_ok (n : Nfa) (hs : n.set.length ≤ 1000000) (hf : ∀ l ∈ n.free, l.length ≤ 1000000) : PureF Tryz.prog A 39 [nfaD n] (.bool (rightN n)) := by
  refine evF_inB (n := 91) (rs := [.tmp 2]) Tryz.func39 rfl rfl rfl rfl rfl rfl ?_
  by_cases c1 : n.set.length = 0
  · have hz : rightN n = false := by simp [rightN, c1]
    rw [hz]
    repeat' (first | refine wz1 ?_ | refine wz2 ?_ | refine wz3 ?_ | refine wz4 ?_ | refine wz5 ?_ | refine wz6 ?_ | simp -dsimp (maxSteps:=999999) (disch:=omega) only[go_sem,simprocAttr, *,nfaD, u16D])
    refine wz7 (fun hb => ?_) (fun hb => ?_) <;> try simp -dsimp (maxSteps:=999999) (disch:=omega) only[go_sem,simprocAttr,decide_eq_true_eq,decide_eq_false_iff_not,Bool.not_eq_true,Bool.not_eq_false,Int.not_lt,Int.not_le] at hb
    repeat' (first | refine wz1 ?_ | refine wz2 ?_ | refine wz3 ?_ | refine wz4 ?_ | refine wz5 ?_ | refine wz6 ?_ | simp -dsimp (maxSteps:=999999) (disch:=omega) only[go_sem,simprocAttr, *])
    try rfl
  by_cases c2 : n.set.length ≤ 3300
  case neg =>
    have hz : rightN n = false := by simp [rightN, c2]
    rw [hz]
    repeat' (first | refine wz1 ?_ | refine wz2 ?_ | refine wz3 ?_ | refine wz4 ?_ | refine wz5 ?_ | refine wz6 ?_ | simp -dsimp (maxSteps:=999999) (disch:=omega) only[go_sem,simprocAttr, *,nfaD, u16D])
    refine wz7 (fun hb => ?_) (fun hb => ?_) <;> try simp -dsimp (maxSteps:=999999) (disch:=omega) only[go_sem,simprocAttr,decide_eq_true_eq,decide_eq_false_iff_not,Bool.not_eq_true,Bool.not_eq_false,Int.not_lt,Int.not_le] at hb
    repeat' (first | refine wz1 ?_ | refine wz2 ?_ | refine wz3 ?_ | refine wz4 ?_ | refine wz5 ?_ | refine wz6 ?_ | simp -dsimp (maxSteps:=999999) (disch:=omega) only[go_sem,simprocAttr, *])
    try rfl
  by_cases c3 : n.free.length = n.set.length
  case neg =>
    have hz : rightN n = false := by simp [rightN, c3]
    rw [hz]
    repeat' (first | refine wz1 ?_ | refine wz2 ?_ | refine wz3 ?_ | refine wz4 ?_ | refine wz5 ?_ | refine wz6 ?_ | simp -dsimp (maxSteps:=999999) (disch:=omega) only[go_sem,simprocAttr, *,nfaD, u16D, issD])
    refine wz7 (fun hb => ?_) (fun hb => ?_) <;> try simp -dsimp (maxSteps:=999999) (disch:=omega) only[go_sem,simprocAttr,decide_eq_true_eq,decide_eq_false_iff_not,Bool.not_eq_true,Bool.not_eq_false,Int.not_lt,Int.not_le] at hb
    repeat' (first | refine wz1 ?_ | refine wz2 ?_ | refine wz3 ?_ | refine wz4 ?_ | refine wz5 ?_ | refine wz6 ?_ | simp -dsimp (maxSteps:=999999) (disch:=omega) only[go_sem,simprocAttr, *])
    try rfl
  by_cases c4 : n.to.length = n.set.length
  case neg =>
    have hz : rightN n = false := by simp [rightN, c4]
    rw [hz]
    repeat' (first | refine wz1 ?_ | refine wz2 ?_ | refine wz3 ?_ | refine wz4 ?_ | refine wz5 ?_ | refine wz6 ?_ | simp -dsimp (maxSteps:=999999) (disch:=omega) only[go_sem,simprocAttr, *,nfaD, u16D, issD, isD])
    refine wz7 (fun hb => ?_) (fun hb => ?_) <;> try simp -dsimp (maxSteps:=999999) (disch:=omega) only[go_sem,simprocAttr,decide_eq_true_eq,decide_eq_false_iff_not,Bool.not_eq_true,Bool.not_eq_false,Int.not_lt,Int.not_le] at hb
    repeat' (first | refine wz1 ?_ | refine wz2 ?_ | refine wz3 ?_ | refine wz4 ?_ | refine wz5 ?_ | refine wz6 ?_ | simp -dsimp (maxSteps:=999999) (disch:=omega) only[go_sem,simprocAttr, *])
    try rfl
  by_cases c5 : n.rule.length = n.set.length
  case neg =>
    have hz : rightN n = false := by simp [rightN, c5]
    rw [hz]
    repeat' (first | refine wz1 ?_ | refine wz2 ?_ | refine wz3 ?_ | refine wz4 ?_ | refine wz5 ?_ | refine wz6 ?_ | simp -dsimp (maxSteps:=999999) (disch:=omega) only[go_sem,simprocAttr, *,nfaD, u16D, issD, isD])
    refine wz7 (fun hb => ?_) (fun hb => ?_) <;> try simp -dsimp (maxSteps:=999999) (disch:=omega) only[go_sem,simprocAttr,decide_eq_true_eq,decide_eq_false_iff_not,Bool.not_eq_true,Bool.not_eq_false,Int.not_lt,Int.not_le] at hb
    repeat' (first | refine wz1 ?_ | refine wz2 ?_ | refine wz3 ?_ | refine wz4 ?_ | refine wz5 ?_ | refine wz6 ?_ | simp -dsimp (maxSteps:=999999) (disch:=omega) only[go_sem,simprocAttr, *])
    try rfl
  have hz : rightN n = allN (rowOk n) 0 n.set.length := by simp [rightN, c2, c3, c4, c5]; omega
  rw [hz]
  generalize hG : allN (rowOk n) 0 n.set.length = G
  clear hz
  repeat' (first | refine wz1 ?_ | refine wz2 ?_ | refine wz3 ?_ | refine wz4 ?_ | refine wz5 ?_ | refine wz6 ?_ | simp -dsimp (maxSteps:=999999) (disch:=omega) only[go_sem,simprocAttr, *,nfaD, u16D, issD, isD])
  refine wz7 (fun hb => ?_) (fun hb => ?_) <;> try simp -dsimp (maxSteps:=999999) (disch:=omega) only[go_sem,simprocAttr,decide_eq_true_eq,decide_eq_false_iff_not,Bool.not_eq_true,Bool.not_eq_false,Int.not_lt,Int.not_le] at hb
  repeat' (first | refine wz1 ?_ | refine wz2 ?_ | refine wz3 ?_ | refine wz4 ?_ | refine wz5 ?_ | refine wz6 ?_ | simp -dsimp (maxSteps:=999999) (disch:=omega) only[go_sem,simprocAttr, *,nfaD, u16D, issD, isD])
  let H0 : Heap := [Ob.arr [nfaD n], Ob.arr [.int .i64 n.set.length]]
  refine wpB_loop (fun e H => ∃ j m : Nat, j + m = n.set.length ∧ H = H0 ∧ e 1 = .ptr 0 0 0 ∧ e 3 = .ptr 1 0 0 ∧ e 4 = .fn 56 [.ptr 1 0 0] ∧ e 39 = .int .i64 n.set.length ∧ e 40 = .int .i64 j ∧ G = allN (rowOk n) j m) (fun e H => n.set.length - natOf (e 40)) ?_ ?_
  · exact ⟨0, n.set.length, by omega, rfl, gs, gs, gs, gs, gs, hG.symm⟩
  clear hG
  rintro e H ⟨j, m, hj, rfl, e1, e3, e4, e39, e40, ha⟩ R hR
  simp only [H0]
  repeat' (first | refine wz1 ?_ | refine wz2 ?_ | refine wz3 ?_ | refine wz4 ?_ | refine wz5 ?_ | refine wz6 ?_ | simp -dsimp (maxSteps:=999999) (disch:=omega) only[go_sem,simprocAttr, *,nfaD, u16D, issD, isD])
  refine wz7 (fun hb => ?_) (fun hb => ?_) <;> try simp -dsimp (maxSteps:=999999) (disch:=omega) only[go_sem,simprocAttr,decide_eq_true_eq,decide_eq_false_iff_not,Bool.not_eq_true,Bool.not_eq_false,Int.not_lt,Int.not_le] at hb
  · obtain ⟨m, rfl⟩ : ∃ x, m = x + 1 := ⟨m - 1, by omega⟩
    obtain ⟨s, hs1, hs2⟩ := ex_at (l := n.set) (i := j) 0 (by omega)
    obtain ⟨t, ht1, ht2⟩ := ex_at (l := n.to) (i := j) 0 (by omega)
    obtain ⟨ru, hr1, hr2⟩ := ex_at (l := n.rule) (i := j) 0 (by omega)
    obtain ⟨fr, hf1, hf2⟩ := ex_at (l := n.free) (i := j) [] (by omega)
    have hrow : allN (rowOk n) j (m + 1) = ((!(decide (s ≠ 0) && !isS n.set.length t) && decide (-1 ≤ ru) && decide (ru < 16) && fr.all (isS n.set.length)) && allN (rowOk n) (j + 1) m) := by simp only [allN, rowOk, hs2, ht2, hr2, hf2]
    rw [hrow] at ha
    clear hrow hs2 ht2 hr2 hf2
    rcases (by by_cases hs0 : s = 0; exact .inl hs0; by_cases hi : isS n.set.length t = true; exact .inr (.inr ⟨hs0, hi⟩); exact .inr (.inl ⟨hs0, by simpa using hi⟩) : s = 0 ∨ (s ≠ 0 ∧ isS n.set.length t = false) ∨ (s ≠ 0 ∧ isS n.set.length t = true)) with hs0 | ⟨hs0, hi⟩ | ⟨hs0, hi⟩
    rotate_left
    · have : G = false := by rw [ha, hi]; simp [hs0]
      rw [this]
      clear ha this
      repeat' (first | refine wz1 ?_ | refine wz2 ?_ | refine wz3 ?_ | refine wz4 ?_ | refine wz5 ?_ | refine wz6 ?_ | simp -dsimp (maxSteps:=999999) (disch:=omega) only[go_sem,simprocAttr, *,nfaD, u16D, issD, isD])
      refine evB_state bo56 rfl rfl (right1_ok _ n.set.length _ _ rfl) ?_ (fun _ _ h => h.elim)
      rintro d H' ⟨rfl, rfl⟩
      simp -dsimp (maxSteps:=999999) (disch:=omega) only[go_sem,simprocAttr, *]
      refine wz7 (fun hb2 => ?_) (fun hb2 => ?_) <;> try simp -dsimp (maxSteps:=999999) (disch:=omega) only[go_sem,simprocAttr,decide_eq_true_eq,decide_eq_false_iff_not,Bool.not_eq_true,Bool.not_eq_false,Int.not_lt,Int.not_le] at hb2
      repeat' (first | refine wz1 ?_ | refine wz2 ?_ | refine wz3 ?_ | refine wz4 ?_ | refine wz5 ?_ | refine wz6 ?_ | simp -dsimp (maxSteps:=999999) (disch:=omega) only[go_sem,simprocAttr, *])
      try rfl
    · replace ha : G = ((decide (-1 ≤ ru) && decide (ru < 16) && fr.all (isS n.set.length)) && allN (rowOk n) (j + 1) m) := by rw [ha, hi]; simp [hs0]
      rcases (by by_cases h1 : ru < -1; exact .inl h1; by_cases h2 : ru < 16; exact .inr (.inr ⟨h1, h2⟩); exact .inr (.inl ⟨h1, h2⟩) : ru < -1 ∨ (¬ ru < -1 ∧ ¬ ru < 16) ∨ (¬ ru < -1 ∧ ru < 16)) with h1 | ⟨h1, h2⟩ | ⟨h1, h2⟩
      · have hx : G = false := by rw [ha]; simp; omega
        rw [hx]
        clear ha hx
        repeat' (first | refine wz1 ?_ | refine wz2 ?_ | refine wz3 ?_ | refine wz4 ?_ | refine wz5 ?_ | refine wz6 ?_ | simp -dsimp (maxSteps:=999999) (disch:=omega) only[go_sem,simprocAttr, *,nfaD, u16D, issD, isD])
        refine evB_state bo56 rfl rfl (right1_ok _ n.set.length _ _ rfl) ?_ (fun _ _ h => h.elim); rintro d H' ⟨rfl, rfl⟩; simp -dsimp (maxSteps:=999999) (disch:=omega) only[go_sem,simprocAttr, *]
        refine wz7 (fun hb2 => ?_) (fun hb2 => ?_) <;> try simp -dsimp (maxSteps:=999999) (disch:=omega) only[go_sem,simprocAttr,decide_eq_true_eq,decide_eq_false_iff_not,Bool.not_eq_true,Bool.not_eq_false,Int.not_lt,Int.not_le] at hb2
        repeat' (first | refine wz1 ?_ | refine wz2 ?_ | refine wz3 ?_ | refine wz4 ?_ | refine wz5 ?_ | refine wz6 ?_ | simp -dsimp (maxSteps:=999999) (disch:=omega) only[go_sem,simprocAttr, *])
        try rfl
      · have hx : G = false := by rw [ha]; simp; omega
        rw [hx]
        clear ha hx
        repeat' (first | refine wz1 ?_ | refine wz2 ?_ | refine wz3 ?_ | refine wz4 ?_ | refine wz5 ?_ | refine wz6 ?_ | simp -dsimp (maxSteps:=999999) (disch:=omega) only[go_sem,simprocAttr, *,nfaD, u16D, issD, isD])
        refine evB_state bo56 rfl rfl (right1_ok _ n.set.length _ _ rfl) ?_ (fun _ _ h => h.elim); rintro d H' ⟨rfl, rfl⟩; simp -dsimp (maxSteps:=999999) (disch:=omega) only[go_sem,simprocAttr, *]
        refine wz7 (fun hb2 => ?_) (fun hb2 => ?_) <;> try simp -dsimp (maxSteps:=999999) (disch:=omega) only[go_sem,simprocAttr,decide_eq_true_eq,decide_eq_false_iff_not,Bool.not_eq_true,Bool.not_eq_false,Int.not_lt,Int.not_le] at hb2
        repeat' (first | refine wz1 ?_ | refine wz2 ?_ | refine wz3 ?_ | refine wz4 ?_ | refine wz5 ?_ | refine wz6 ?_ | simp -dsimp (maxSteps:=999999) (disch:=omega) only[go_sem,simprocAttr, *])
        try rfl
      · replace ha : G = (fr.all (isS n.set.length) && allN (rowOk n) (j + 1) m) := by rw [ha, show decide (-1 ≤ ru) = true by simp; omega, show decide (ru < 16) = true by simp; omega]; rfl
        repeat' (first | refine wz1 ?_ | refine wz2 ?_ | refine wz3 ?_ | refine wz4 ?_ | refine wz5 ?_ | refine wz6 ?_ | simp -dsimp (maxSteps:=999999) (disch:=omega) only[go_sem,simprocAttr, *,nfaD, u16D, issD, isD])
        refine evB_state bo56 rfl rfl (right1_ok _ n.set.length _ _ rfl) ?_ (fun _ _ h => h.elim); rintro d H' ⟨rfl, rfl⟩; simp -dsimp (maxSteps:=999999) (disch:=omega) only[go_sem,simprocAttr, *]
        refine wz7 (fun hb2 => ?_) (fun hb2 => ?_) <;> try simp -dsimp (maxSteps:=999999) (disch:=omega) only[go_sem,simprocAttr,decide_eq_true_eq,decide_eq_false_iff_not,Bool.not_eq_true,Bool.not_eq_false,Int.not_lt,Int.not_le] at hb2
        repeat' (first | refine wz1 ?_ | refine wz2 ?_ | refine wz3 ?_ | refine wz4 ?_ | refine wz5 ?_ | refine wz6 ?_ | simp -dsimp (maxSteps:=999999) (disch:=omega) only[go_sem,simprocAttr, *,nfaD, u16D, issD, isD])
        have hfl : fr.length ≤ 1000000 := hf fr (List.mem_of_getElem? hf1)
        have hi0 : G = ((fr.drop 0).all (isS n.set.length) && allN (rowOk n) (j + 1) m) := ha
        clear ha
        refine wpB_loop (fun e H => ∃ i : Nat, i ≤ fr.length ∧ H = H0 ∧ e 1 = .ptr 0 0 0 ∧ e 3 = .ptr 1 0 0 ∧ e 4 = .fn 56 [.ptr 1 0 0] ∧ e 39 = .int .i64 n.set.length ∧ e 40 = .int .i64 j ∧ e 79 = isD fr ∧ e 80 = .int .i64 fr.length ∧ e 81 = .int .i64 i ∧ G = ((fr.drop i).all (isS n.set.length) && allN (rowOk n) (j + 1) m)) (fun e H => fr.length - natOf (e 81)) ?_ ?_
        · exact ⟨0, Nat.zero_le _, rfl, gs, gs, gs, gs, gs, by simp -dsimp (maxSteps:=999999) (disch:=omega) only[go_sem,simprocAttr, *,isD], gs, gs, hi0⟩
        · clear hi0
          rintro e' H ⟨i, hi, rfl, e1, e3, e4, e39, e40, e79, e80, e81, ha⟩ R2 hR2
          simp only [H0]
          repeat' (first | refine wz1 ?_ | refine wz2 ?_ | refine wz3 ?_ | refine wz4 ?_ | refine wz5 ?_ | refine wz6 ?_ | simp -dsimp (maxSteps:=999999) (disch:=omega) only[go_sem,simprocAttr, *])
          refine wz7 (fun hb3 => ?_) (fun hb3 => ?_) <;> try simp -dsimp (maxSteps:=999999) (disch:=omega) only[go_sem,simprocAttr,decide_eq_true_eq,decide_eq_false_iff_not,Bool.not_eq_true,Bool.not_eq_false,Int.not_lt,Int.not_le] at hb3
          · rw [allL_drop hb3] at ha
            repeat' (first | refine wz1 ?_ | refine wz2 ?_ | refine wz3 ?_ | refine wz4 ?_ | refine wz5 ?_ | refine wz6 ?_ | simp -dsimp (maxSteps:=999999) (disch:=omega) only[go_sem,simprocAttr, *,isD])
            refine evB_state bo56 rfl rfl (right1_ok _ n.set.length _ _ rfl) ?_ (fun _ _ h => h.elim)
            rintro d H' ⟨rfl, rfl⟩
            cases hq : isS n.set.length fr[i] with
            | true =>
              rw [hq, Bool.true_and] at ha
              simp -dsimp (maxSteps:=999999) (disch:=omega) only[go_sem,simprocAttr, *]
              refine wz7 (fun hb4 => ?_) (fun hb4 => ?_) <;> try simp -dsimp (maxSteps:=999999) (disch:=omega) only[go_sem,simprocAttr,decide_eq_true_eq,decide_eq_false_iff_not,Bool.not_eq_true,Bool.not_eq_false,Int.not_lt,Int.not_le] at hb4
              repeat' (first | refine wz1 ?_ | refine wz2 ?_ | refine wz3 ?_ | refine wz4 ?_ | refine wz5 ?_ | refine wz6 ?_ | simp -dsimp (maxSteps:=999999) (disch:=omega) only[go_sem,simprocAttr, *])
              refine hR2 _ _ ⟨i + 1, by omega, rfl, gs, gs, gs, gs, gs, gs, gs, gs, ha⟩ ?_
              simp -dsimp (maxSteps:=999999) (disch:=omega) only[go_sem,simprocAttr, *,natOf_int]
            | false =>
              rw [hq, Bool.false_and, Bool.false_and] at ha
              rw [ha]
              simp -dsimp (maxSteps:=999999) (disch:=omega) only[go_sem,simprocAttr, *]
              refine wz7 (fun hb4 => ?_) (fun hb4 => ?_) <;> try simp -dsimp (maxSteps:=999999) (disch:=omega) only[go_sem,simprocAttr,decide_eq_true_eq,decide_eq_false_iff_not,Bool.not_eq_true,Bool.not_eq_false,Int.not_lt,Int.not_le] at hb4
              repeat' (first | refine wz1 ?_ | refine wz2 ?_ | refine wz3 ?_ | refine wz4 ?_ | refine wz5 ?_ | refine wz6 ?_ | simp -dsimp (maxSteps:=999999) (disch:=omega) only[go_sem,simprocAttr, *])
              try rfl
          · rw [List.drop_eq_nil_of_le (by omega)] at ha
            have ha' : G = allN (rowOk n) (j + 1) m := by rw [ha]; rfl
            repeat' (first | refine wz1 ?_ | refine wz2 ?_ | refine wz3 ?_ | refine wz4 ?_ | refine wz5 ?_ | refine wz6 ?_ | simp -dsimp (maxSteps:=999999) (disch:=omega) only[go_sem,simprocAttr, *])
            refine hR _ _ ⟨j + 1, m, by omega, rfl, gs, gs, gs, gs, gs, ha'⟩ ?_
            simp -dsimp (maxSteps:=999999) (disch:=omega) only[go_sem,simprocAttr, *,natOf_int]
    · replace ha : G = ((decide (-1 ≤ ru) && decide (ru < 16) && fr.all (isS n.set.length)) && allN (rowOk n) (j + 1) m) := by rw [ha]; simp [hs0]
      rcases (by by_cases h1 : ru < -1; exact .inl h1; by_cases h2 : ru < 16; exact .inr (.inr ⟨h1, h2⟩); exact .inr (.inl ⟨h1, h2⟩) : ru < -1 ∨ (¬ ru < -1 ∧ ¬ ru < 16) ∨ (¬ ru < -1 ∧ ru < 16)) with h1 | ⟨h1, h2⟩ | ⟨h1, h2⟩
      · have hx : G = false := by rw [ha]; simp; omega
        rw [hx]
        clear ha hx
        repeat' (first | refine wz1 ?_ | refine wz2 ?_ | refine wz3 ?_ | refine wz4 ?_ | refine wz5 ?_ | refine wz6 ?_ | simp -dsimp (maxSteps:=999999) (disch:=omega) only[go_sem,simprocAttr, *,nfaD, u16D, issD, isD])
        
        refine wz7 (fun hb2 => ?_) (fun hb2 => ?_) <;> try simp -dsimp (maxSteps:=999999) (disch:=omega) only[go_sem,simprocAttr,decide_eq_true_eq,decide_eq_false_iff_not,Bool.not_eq_true,Bool.not_eq_false,Int.not_lt,Int.not_le] at hb2
        repeat' (first | refine wz1 ?_ | refine wz2 ?_ | refine wz3 ?_ | refine wz4 ?_ | refine wz5 ?_ | refine wz6 ?_ | simp -dsimp (maxSteps:=999999) (disch:=omega) only[go_sem,simprocAttr, *])
        try rfl
      · have hx : G = false := by rw [ha]; simp; omega
        rw [hx]
        clear ha hx
        repeat' (first | refine wz1 ?_ | refine wz2 ?_ | refine wz3 ?_ | refine wz4 ?_ | refine wz5 ?_ | refine wz6 ?_ | simp -dsimp (maxSteps:=999999) (disch:=omega) only[go_sem,simprocAttr, *,nfaD, u16D, issD, isD])
        
        refine wz7 (fun hb2 => ?_) (fun hb2 => ?_) <;> try simp -dsimp (maxSteps:=999999) (disch:=omega) only[go_sem,simprocAttr,decide_eq_true_eq,decide_eq_false_iff_not,Bool.not_eq_true,Bool.not_eq_false,Int.not_lt,Int.not_le] at hb2
        repeat' (first | refine wz1 ?_ | refine wz2 ?_ | refine wz3 ?_ | refine wz4 ?_ | refine wz5 ?_ | refine wz6 ?_ | simp -dsimp (maxSteps:=999999) (disch:=omega) only[go_sem,simprocAttr, *])
        try rfl
      · replace ha : G = (fr.all (isS n.set.length) && allN (rowOk n) (j + 1) m) := by rw [ha, show decide (-1 ≤ ru) = true by simp; omega, show decide (ru < 16) = true by simp; omega]; rfl
        repeat' (first | refine wz1 ?_ | refine wz2 ?_ | refine wz3 ?_ | refine wz4 ?_ | refine wz5 ?_ | refine wz6 ?_ | simp -dsimp (maxSteps:=999999) (disch:=omega) only[go_sem,simprocAttr, *,nfaD, u16D, issD, isD])
        
        refine wz7 (fun hb2 => ?_) (fun hb2 => ?_) <;> try simp -dsimp (maxSteps:=999999) (disch:=omega) only[go_sem,simprocAttr,decide_eq_true_eq,decide_eq_false_iff_not,Bool.not_eq_true,Bool.not_eq_false,Int.not_lt,Int.not_le] at hb2
        repeat' (first | refine wz1 ?_ | refine wz2 ?_ | refine wz3 ?_ | refine wz4 ?_ | refine wz5 ?_ | refine wz6 ?_ | simp -dsimp (maxSteps:=999999) (disch:=omega) only[go_sem,simprocAttr, *,nfaD, u16D, issD, isD])
        have hfl : fr.length ≤ 1000000 := hf fr (List.mem_of_getElem? hf1)
        have hi0 : G = ((fr.drop 0).all (isS n.set.length) && allN (rowOk n) (j + 1) m) := ha
        clear ha
        refine wpB_loop (fun e H => ∃ i : Nat, i ≤ fr.length ∧ H = H0 ∧ e 1 = .ptr 0 0 0 ∧ e 3 = .ptr 1 0 0 ∧ e 4 = .fn 56 [.ptr 1 0 0] ∧ e 39 = .int .i64 n.set.length ∧ e 40 = .int .i64 j ∧ e 79 = isD fr ∧ e 80 = .int .i64 fr.length ∧ e 81 = .int .i64 i ∧ G = ((fr.drop i).all (isS n.set.length) && allN (rowOk n) (j + 1) m)) (fun e H => fr.length - natOf (e 81)) ?_ ?_
        · exact ⟨0, Nat.zero_le _, rfl, gs, gs, gs, gs, gs, by simp -dsimp (maxSteps:=999999) (disch:=omega) only[go_sem,simprocAttr, *,isD], gs, gs, hi0⟩
        · clear hi0
          rintro e' H ⟨i, hi, rfl, e1, e3, e4, e39, e40, e79, e80, e81, ha⟩ R2 hR2
          simp only [H0]
          repeat' (first | refine wz1 ?_ | refine wz2 ?_ | refine wz3 ?_ | refine wz4 ?_ | refine wz5 ?_ | refine wz6 ?_ | simp -dsimp (maxSteps:=999999) (disch:=omega) only[go_sem,simprocAttr, *])
          refine wz7 (fun hb3 => ?_) (fun hb3 => ?_) <;> try simp -dsimp (maxSteps:=999999) (disch:=omega) only[go_sem,simprocAttr,decide_eq_true_eq,decide_eq_false_iff_not,Bool.not_eq_true,Bool.not_eq_false,Int.not_lt,Int.not_le] at hb3
          · rw [allL_drop hb3] at ha
            repeat' (first | refine wz1 ?_ | refine wz2 ?_ | refine wz3 ?_ | refine wz4 ?_ | refine wz5 ?_ | refine wz6 ?_ | simp -dsimp (maxSteps:=999999) (disch:=omega) only[go_sem,simprocAttr, *,isD])
            refine evB_state bo56 rfl rfl (right1_ok _ n.set.length _ _ rfl) ?_ (fun _ _ h => h.elim)
            rintro d H' ⟨rfl, rfl⟩
            cases hq : isS n.set.length fr[i] with
            | true =>
              rw [hq, Bool.true_and] at ha
              simp -dsimp (maxSteps:=999999) (disch:=omega) only[go_sem,simprocAttr, *]
              refine wz7 (fun hb4 => ?_) (fun hb4 => ?_) <;> try simp -dsimp (maxSteps:=999999) (disch:=omega) only[go_sem,simprocAttr,decide_eq_true_eq,decide_eq_false_iff_not,Bool.not_eq_true,Bool.not_eq_false,Int.not_lt,Int.not_le] at hb4
              repeat' (first | refine wz1 ?_ | refine wz2 ?_ | refine wz3 ?_ | refine wz4 ?_ | refine wz5 ?_ | refine wz6 ?_ | simp -dsimp (maxSteps:=999999) (disch:=omega) only[go_sem,simprocAttr, *])
              refine hR2 _ _ ⟨i + 1, by omega, rfl, gs, gs, gs, gs, gs, gs, gs, gs, ha⟩ ?_
              simp -dsimp (maxSteps:=999999) (disch:=omega) only[go_sem,simprocAttr, *,natOf_int]
            | false =>
              rw [hq, Bool.false_and, Bool.false_and] at ha
              rw [ha]
              simp -dsimp (maxSteps:=999999) (disch:=omega) only[go_sem,simprocAttr, *]
              refine wz7 (fun hb4 => ?_) (fun hb4 => ?_) <;> try simp -dsimp (maxSteps:=999999) (disch:=omega) only[go_sem,simprocAttr,decide_eq_true_eq,decide_eq_false_iff_not,Bool.not_eq_true,Bool.not_eq_false,Int.not_lt,Int.not_le] at hb4
              repeat' (first | refine wz1 ?_ | refine wz2 ?_ | refine wz3 ?_ | refine wz4 ?_ | refine wz5 ?_ | refine wz6 ?_ | simp -dsimp (maxSteps:=999999) (disch:=omega) only[go_sem,simprocAttr, *])
              try rfl
          · rw [List.drop_eq_nil_of_le (by omega)] at ha
            have ha' : G = allN (rowOk n) (j + 1) m := by rw [ha]; rfl
            repeat' (first | refine wz1 ?_ | refine wz2 ?_ | refine wz3 ?_ | refine wz4 ?_ | refine wz5 ?_ | refine wz6 ?_ | simp -dsimp (maxSteps:=999999) (disch:=omega) only[go_sem,simprocAttr, *])
            refine hR _ _ ⟨j + 1, m, by omega, rfl, gs, gs, gs, gs, gs, ha'⟩ ?_
            simp -dsimp (maxSteps:=999999) (disch:=omega) only[go_sem,simprocAttr, *,natOf_int]
  · obtain rfl : m = 0 := by omega
    have : G = true := ha
    rw [this]
    repeat' (first | refine wz1 ?_ | refine wz2 ?_ | refine wz3 ?_ | refine wz4 ?_ | refine wz5 ?_ | refine wz6 ?_ | simp -dsimp (maxSteps:=999999) (disch:=omega) only[go_sem,simprocAttr, *])
    try rfl
end Go.Proofs.W
end
/- Machines with free steps: whether one may be, by the document. -/
section
set_option maxHeartbeats 4000000
set_option linter.unusedVariables false
set_option linter.unusedSimpArgs false
namespace Go.Proofs.W
open Go Vm Go.Proofs.Zs7z

end Go.Proofs.W
end
/- Machines with free steps: tables of states, as the document has them. -/
section
set_option maxHeartbeats 4000000
set_option linter.unusedVariables false
set_option linter.unusedSimpArgs false
namespace Go.Proofs.W
open Go Vm Go.Proofs.Zs7z

/-- a table, as data -/
def tabD (k : Nat) (p : Nat → Bool) : List D := (List.range k).map fun i => .bool (p i)
theorem tabD_len {k : Nat} {p : Nat → Bool} : (tabD k p).length = k := by simp [tabD]
theorem tabD_at {k : Nat} {p : Nat → Bool} {i : Nat} (h : i < k) : (tabD k p)[i]? = some (.bool (p i)) := by simp [tabD, h]
theorem tabD_congr {k : Nat} {p q : Nat → Bool} (h : ∀ i, i < k → p i = q i) : tabD k p = tabD k q := by
  refine List.map_congr_left fun i hi => ?_
  rw [h i (by simpa using hi)]
theorem tabD_set {k : Nat} {p : Nat → Bool} {x : Nat} {b : Bool} (h : x < k) : (tabD k p).set x (.bool b) = tabD k fun i => if i = x then b else p i := by
  refine List.ext_getElem? fun i => ?_
  rw [List.getElem?_set]
  by_cases hi : i < k
  · rw [tabD_at hi, tabD_len]
    by_cases hx : x = i
    · subst hx; simp [h, tabD]
    · rw [if_neg hx, tabD_at hi, if_neg (fun e => hx e.symm)]
  · rw [List.getElem?_eq_none (by rw [tabD_len]; omega : (tabD k p).length ≤ i), List.getElem?_eq_none (by rw [tabD_len]; omega)]
    rw [if_neg (by omega)]
theorem strip_bools (l : List Nat) (p : Nat → Bool) : stripL (l.map fun i => D.bool (p i)) = some (l.map fun i => D.bool (p i)) := by
  induction l with
  | nil => rfl
  | cons q r ih => simp [stripL, ih, strip]
theorem strip_tabD (k : Nat) (p : Nat → Bool) : stripL (tabD k p) = some (tabD k p) := strip_bools _ p
theorem head_tabD (k : Nat) (p : Nat → Bool) : headSize 1 (tabD k p) = true := by
  unfold tabD
  cases List.range k <;> rfl
def tD (k : Nat) (p : Nat → Bool) : D := .sl false (tabD k p)
theorem strip_tD (k : Nat) (p : Nat → Bool) : strip (tD k p) = some (tD k p) := by simp [tD, strip, strip_tabD]
theorem mkBools {k : Nat} {H : Heap} (h1 : 1 ≤ k) (h2 : k ≤ 1000000) : makeSliceD Tryz.prog 66 (.int .i64 k) (.int .i64 k) H = some (.vec H.length 0 k, H ++ [.arr (tabD k fun _ => false)]) := by
  have h0 : List.replicate k (D.bool false) = tabD k fun _ => false := by
    refine List.ext_getElem? fun i => ?_
    by_cases hi : i < k
    · rw [tabD_at hi]; simp [hi]
    · rw [List.getElem?_eq_none (by simpa using hi), List.getElem?_eq_none (by rw [tabD_len]; omega)]
  simp only [makeSliceD, el66, sz4, by4, zr4, Option.bind_some, Int.toNat_natCast, h0]
  rw [if_pos ⟨by omega, by omega, by simp [mostBytes]; omega, by omega, rfl⟩, if_neg (by omega)]
theorem tab_size {H : Heap} {r k : Nat} {p : Nat → Bool} (h : hget H r = .arr (tabD k p)) (hk : 1 ≤ k) : vecSize H r 1 = true := vecSize_of h (fun h0 => by have := congrArg List.length h0; rw [tabD_len] at this; simp at this; omega) (head_tabD k p)
theorem vecO_tab {k : Nat} {p : Nat → Bool} (hk : 1 ≤ k) : vecO (.arr (tabD k p)) 1 = true := vecO_arr (fun h0 => by have := congrArg List.length h0; rw [tabD_len] at this; simp at this; omega) (head_tabD k p)
attribute [go_sem] tabD_len tabD_at tabD_set mkBools vecSize_o vecO_tab
theorem out_tab {H : Heap} {r k : Nat} {p : Nat → Bool} (hg : hget H r = .arr (tabD k p)) (hk : 1 ≤ k) (hr : r < H.length) : outPure H (.vec r 0 k) = some (tD k p) := by
  have h : VecIs (.vec r 0 k) H (tabD k p) := .inr ⟨fun h0 => by have := congrArg List.length h0; rw [tabD_len] at this; simp at this; omega, r, by rw [tabD_len], hg, hr⟩
  exact h.out (strip_tabD k p)
/-- those told -/
theorem table_ok (l : List Int) (k : Nat) (hk : 1 ≤ k) (hk2 : k ≤ 1000000) (hl : l.length ≤ 1000000) : PureF Tryz.prog A 23 [isD l, .int .i64 k] (tD k fun s => decide ((s : Int) ∈ l)) := by
  refine evF_inB (n := 35) (rs := [.tmp 4]) Tryz.func23 rfl rfl rfl rfl rfl rfl ?_
  repeat' (first | refine wz1 ?_ | refine wz2 ?_ | refine wz3 ?_ | refine wz4 ?_ | refine wz5 ?_ | refine wz6 ?_ | simp -dsimp (maxSteps:=999999) (disch:=omega) only[go_sem,simprocAttr, *,isD] | ((first | refine wz8 (fun hh => ?_) (fun hh => ?_) | refine wz9 (fun hh => ?_) (fun hh => ?_) | refine wpB_cond (by simp -dsimp (maxSteps:=999999) (disch:=omega) only[go_sem,simprocAttr, *,isD]; exact rfl) (fun hh => ?_) (fun hh => ?_)) <;> (try replace hh := vqs hh) <;> (try (exfalso; first | exact hh | omega))))
  refine wpB_loop (fun e H => ∃ (j : Nat) (p : Nat → Bool), j ≤ l.length ∧ H = [Ob.arr (tabD k p)] ∧ e 0 = isD l ∧ e 1 = .int .i64 k ∧ e 5 = .vec 0 0 k ∧ e 6 = .int .i64 j ∧ ∀ s, s < k → p s = decide ((s : Int) ∈ l.take j)) (fun e H => l.length - natOf (e 6)) ?_ ?_
  · exact ⟨0, _, by omega, rfl, by simp -dsimp (maxSteps:=999999) (disch:=omega) only[go_sem,simprocAttr, *,isD], gs, gs, gs, fun s _ => by simp⟩
  · rintro e H ⟨j, p, hj, rfl, e0, e1, e5, e6, hp⟩ R hR
    by_cases hb : j < l.length
    · have htk := take_succ' hb
      have hvs := tab_size (H := [Ob.arr (tabD k p)]) (r := 0) rfl hk
      have key : ∀ q : Nat → Bool, (∀ s, s < k → q s = (p s || decide ((s : Int) = l[j]))) → ∀ s, s < k → q s = decide ((s : Int) ∈ l.take (j + 1)) := by
        intro q hq s hs
        rw [hq s hs, hp s hs, htk]; simp only [List.mem_append, List.mem_singleton, Bool.decide_or]
      clear htk
      repeat' (first | refine wz1 ?_ | refine wz2 ?_ | refine wz3 ?_ | refine wz4 ?_ | refine wz5 ?_ | refine wz6 ?_ | simp -dsimp (maxSteps:=999999) (disch:=omega) only[go_sem,simprocAttr, *,isD] | ((first | refine wz8 (fun hh => ?_) (fun hh => ?_) | refine wz9 (fun hh => ?_) (fun hh => ?_) | refine wpB_cond (by simp -dsimp (maxSteps:=999999) (disch:=omega) only[go_sem,simprocAttr, *,isD]; exact rfl) (fun hh => ?_) (fun hh => ?_)) <;> (try replace hh := vqs hh) <;> (try (exfalso; first | exact hh | omega))))
      · refine hR _ _ ⟨j + 1, fun i => if i = l[j].toNat then true else p i, by omega, gs, by simp -dsimp (maxSteps:=999999) (disch:=omega) only[go_sem,simprocAttr, *,isD], gs, gs, gs, key _ fun s hs => ?_⟩ ?_
        · by_cases h : s = l[j].toNat
          · rw [if_pos h, show decide ((s : Int) = l[j]) = true by simp; omega]; simp
          · rw [if_neg h, show decide ((s : Int) = l[j]) = false by simp; omega]; simp
        · simp -dsimp (maxSteps:=999999) (disch:=omega) only[go_sem,simprocAttr, *,natOf_int]
      all_goals
        refine hR _ _ ⟨j + 1, p, by omega, gs, by simp -dsimp (maxSteps:=999999) (disch:=omega) only[go_sem,simprocAttr, *,isD], gs, gs, gs, key _ fun s hs => ?_⟩ ?_
        · rw [show decide ((s : Int) = l[j]) = false by simp; omega]; simp
        · simp -dsimp (maxSteps:=999999) (disch:=omega) only[go_sem,simprocAttr, *,natOf_int]
    · repeat' (first | refine wz1 ?_ | refine wz2 ?_ | refine wz3 ?_ | refine wz4 ?_ | refine wz5 ?_ | refine wz6 ?_ | simp -dsimp (maxSteps:=999999) (disch:=omega) only[go_sem,simprocAttr, *,isD] | ((first | refine wz8 (fun hh => ?_) (fun hh => ?_) | refine wz9 (fun hh => ?_) (fun hh => ?_) | refine wpB_cond (by simp -dsimp (maxSteps:=999999) (disch:=omega) only[go_sem,simprocAttr, *,isD]; exact rfl) (fun hh => ?_) (fun hh => ?_)) <;> (try replace hh := vqs hh) <;> (try (exfalso; first | exact hh | omega))))
      rw [out_tab rfl hk (by simp)]
      refine congrArg (fun x => some (D.sl false x)) (tabD_congr fun s hs => ?_)
      rw [hp s hs, List.take_of_length_le (by omega)]
end Go.Proofs.W
end
/- In this chapter: lists of numbers alone. -/
section
set_option maxHeartbeats 4000000
set_option linter.unusedVariables false
set_option linter.unusedSimpArgs false
namespace Go.Proofs.W
end Go.Proofs.W
end
/- Expressions: whether they may be; whether they have the empty word. -/
section
set_option maxHeartbeats 4000000
set_option linter.unusedVariables false
set_option linter.unusedSimpArgs false
namespace Go.Proofs.W
open Go Vm Go.Proofs.Zs7z

mutual
def sizeR : Rx → Nat
  | .mk _ _ l => sizeL l + 1
def sizeL : List Rx → Nat
  | [] => 0
  | r :: l => sizeR r + sizeL l
end
theorem sizeR_pos (r : Rx) : 0 < sizeR r := by cases r; simp [sizeR]
mutual
theorem cnt_eq : ∀ (r : Rx) (d : Nat) (left : Int), 0 ≤ left → ((cntR r d left).1 = true ↔ (sizeR r : Int) ≤ left ∧ depth r ≤ d ∧ shapesR r = true) ∧ ((cntR r d left).1 = true → (cntR r d left).2 = left - sizeR r)
  | .mk k s l, d, left, h => by
    simp only [cntR, sizeR, depth, shapesR, Bool.and_eq_true]
    by_cases h1 : left - 1 < 0
    · rw [if_pos (.inl h1)]
      simp only [Bool.false_eq_true, false_iff, false_implies, and_true, not_and]
      omega
    by_cases h2 : d = 0
    · rw [if_pos (.inr (.inl h2))]
      simp only [Bool.false_eq_true, false_iff, false_implies, and_true, not_and]
      omega
    by_cases h3 : shape1 k s l.length = false
    · rw [if_pos (.inr (.inr h3))]
      simp [h3]
    · rw [if_neg (by simp [h1, h2, h3])]
      have := cntL_eq l (d - 1) (left - 1) (by omega)
      simp only [Bool.not_eq_false] at h3
      simp only [h3, true_and]
      refine ⟨this.1.trans ⟨fun ⟨a, b, c⟩ => ⟨by omega, by omega, c⟩, fun ⟨a, b, c⟩ => ⟨by omega, by omega, c⟩⟩, fun h => ?_⟩
      rw [this.2 h]; omega
theorem cntL_eq : ∀ (l : List Rx) (d : Nat) (left : Int), 0 ≤ left → ((cntL l d left).1 = true ↔ (sizeL l : Int) ≤ left ∧ depthL l ≤ d ∧ shapesL l = true) ∧ ((cntL l d left).1 = true → (cntL l d left).2 = left - sizeL l)
  | [], d, left, h => by simp [cntL, sizeL, depthL, shapesL, h]
  | r :: l, d, left, h => by
    simp only [cntL, sizeL, depthL, shapesL, Bool.and_eq_true]
    have h1 := cnt_eq r d left h
    cases hc : (cntR r d left).1 with
    | false =>
      rw [hc] at h1
      simp only [Bool.false_eq_true, false_iff, false_implies, and_true, if_false, not_and] at h1 ⊢
      intro ha hb hs
      exact absurd hs (h1 (by omega) (by omega))
    | true =>
      rw [hc] at h1
      simp only [true_iff, if_true, forall_const] at h1 ⊢
      have h2 := cntL_eq l d (cntR r d left).2 (by omega)
      rw [h1.2] at h2 ⊢
      refine ⟨h2.1.trans ⟨fun ⟨a, b, c⟩ => ⟨by omega, by omega, h1.1.2.2, c⟩, fun ⟨a, b, c⟩ => ⟨by omega, by omega, c.2⟩⟩, fun h => ?_⟩
      rw [h2.2 h]; omega
end
mutual
theorem nodes_size : ∀ r : Rx, nodesR r ≤ 100 ↔ sizeR r ≤ 100
  | .mk k s l => by
    simp only [nodesR, sizeR]
    have := nodesL_size l 1 (by omega)
    omega
theorem nodesL_size : ∀ (l : List Rx) (n : Nat), 1 ≤ n → (nodesL n l ≤ 100 ↔ n + sizeL l ≤ 100)
  | [], n, h => by simp [nodesL, sizeL]
  | r :: l, n, h => by
    simp only [nodesL, sizeL]
    have h1 := nodes_size r
    have hp := sizeR_pos r
    split
    · have h2 := nodesL_size l (n + nodesR r) (by omega)
      rw [h2]
      have h3 := nodes_small r
      omega
    · omega
theorem nodes_small : ∀ r : Rx, (sizeR r ≤ 100 → nodesR r = sizeR r) ∧ (100 < sizeR r → 100 < nodesR r)
  | .mk k s l => by
    simp only [nodesR, sizeR]
    have := nodesL_small l 1 (by omega)
    exact ⟨fun h => by have := this.1 (by omega); omega, fun h => by have := this.2 (by omega); omega⟩
theorem nodesL_small : ∀ (l : List Rx) (n : Nat), 1 ≤ n → (n + sizeL l ≤ 100 → nodesL n l = n + sizeL l) ∧ (100 < n + sizeL l → 100 < nodesL n l)
  | [], n, h => by simp [nodesL, sizeL]
  | r :: l, n, h => by
    simp only [nodesL, sizeL]
    have h1 := nodes_small r
    have hp := sizeR_pos r
    split
    · rename_i hn
      have h2 := nodesL_small l (n + nodesR r) (by omega)
      refine ⟨fun ha => ?_, fun ha => ?_⟩
      · have e1 := h1.1 (by omega)
        rw [e1] at h2 ⊢
        have := h2.1 (by omega); omega
      · rcases Nat.lt_or_ge 100 (sizeR r) with hb | hb
        · have := h1.2 hb
          exact h2.2 (by omega)
        · have e1 := h1.1 hb
          rw [e1] at h2 ⊢
          exact h2.2 (by omega)
    · exact ⟨fun ha => by omega, fun ha => by omega⟩
end
theorem cnt_right (r : Rx) : (cntR r 12 100).1 = rightR r := by
  have h := (cnt_eq r 12 100 (by omega)).1
  have hn := nodes_size r
  unfold rightR
  rw [Bool.eq_iff_iff, h]
  simp only [Bool.and_eq_true, decide_eq_true_eq]
  constructor
  · rintro ⟨a, b, c⟩; exact ⟨⟨b, by omega⟩, c⟩
  · rintro ⟨⟨a, b⟩, c⟩; exact ⟨by omega, a, c⟩
theorem rightP_ok (r : Rx) (hr : okR r) : PureF Tryz.prog A 35 [rxD r] (.bool (rightR r)) := by
  rw [← cnt_right]
  have hc := count_ok 12 (by omega) r hr 100 (by omega) (by omega)
  have c1 := rx_cells r
  have c2 := rx_aggQ r
  have c3 := rx_noTup r
  refine evF_inB (n := 6) (rs := [.tmp 2]) Tryz.func35 rfl rfl rfl rfl rfl rfl ?_
  generalize rxD r = d at *
  have hc1 : EvF Tryz.prog A 54 [d, .int .i64 12, .ptr 1 0 0] [Ob.arr [d], Ob.arr [.int .i64 100]] (fun x H' => x = .bool (cntR r 12 100).1 ∧ PtrTo [Ob.arr [d], Ob.arr [.int .i64 100]] H' 1 (.int .i64 (cntR r 12 100).2)) (fun _ _ => False) := hc _ 1 rfl
  repeat' (first | refine wz1 ?_ | refine wz2 ?_ | refine wz3 ?_ | refine wz4 ?_ | refine wz5 ?_ | refine wz6 ?_ | simp -dsimp (maxSteps:=999999) (disch:=omega) only[go_sem,simprocAttr, *])
  refine evB_state bo54 rfl rfl hc1 ?_ (fun _ _ h => h.elim)
  rintro _ H' ⟨rfl, hP⟩
  simp -dsimp (maxSteps:=999999) (disch:=omega) only[go_sem,simprocAttr, *]
  repeat' (first | refine wz1 ?_ | refine wz2 ?_ | refine wz3 ?_ | refine wz4 ?_ | refine wz5 ?_ | refine wz6 ?_ | simp -dsimp (maxSteps:=999999) (disch:=omega) only[go_sem,simprocAttr, *])
def emptyR : Rx → Bool
  | .mk k _ l => if k = 1 then false else if k = 2 then emptyAll l else if k = 3 then emptyAny l else true
where
  emptyAll : List Rx → Bool
  | [] => true
  | r :: l => emptyR r && emptyAll l
  emptyAny : List Rx → Bool
  | [] => false
  | r :: l => emptyR r || emptyAny l
end Go.Proofs.W
end
/- In this chapter: nothing more of empty words. -/
section
set_option maxHeartbeats 4000000
set_option linter.unusedVariables false
set_option linter.unusedSimpArgs false
namespace Go.Proofs.W
end Go.Proofs.W
end
/- Expressions: where a word of one may end. -/
section
set_option maxHeartbeats 4000000
set_option linter.unusedVariables false
set_option linter.unusedSimpArgs false
namespace Go.Proofs.W
open Go Vm Go.Proofs.Zs7z
set_option maxHeartbeats 40000000

def bsD (l : List Bool) : List D := l.map .bool
def bitZ (s c : Int) : Bool := IntKind.u16.wrap (BitVec.ofInt IntKind.u16.bits (s.fdiv (2 ^ (min c.toNat IntKind.u16.bits))) &&& BitVec.ofInt IntKind.u16.bits 1).toNat == 1
def inB (s c : Int) : Bool := decide (0 ≤ c) && decide (c < 16) && bitZ s c
def stepB (s : Int) (w : List Int) (fl : List Bool) : List Bool := false :: List.zipWith (fun b c => b && inB s c) fl w
def orB (a b : List Bool) : List Bool := List.zipWith (· || ·) a b
/-- as often as one likes, as long as there is more -/
def roundsB (f : List Bool → List Bool) (one : Bool) : Nat → List Bool → List Bool
  | 0, l => l
  | n + 1, l => if one = true ∨ orB l (f l) = l then orB l (f l) else roundsB f one n (orB l (f l))
mutual
def endsR (w : List Int) : Rx → List Bool → List Bool
  | .mk k s l, fl => if k = 0 then fl else if k = 1 then stepB s w fl else if k = 2 then endsCat w l fl else if k = 3 then endsAlt w l fl (List.replicate (w.length + 1) false)
      else if k = 4 ∨ k = 5 then roundsB (endsOne w l) (k == 5) (w.length + 1) fl else List.replicate (w.length + 1) false
def endsCat (w : List Int) : List Rx → List Bool → List Bool
  | [], fl => fl
  | r :: l, fl => endsCat w l (endsR w r fl)
def endsAlt (w : List Int) : List Rx → List Bool → List Bool → List Bool
  | [], _, acc => acc
  | r :: l, fl, acc => endsAlt w l fl (orB acc (endsR w r fl))
def endsOne (w : List Int) : List Rx → List Bool → List Bool
  | [], fl => fl
  | r :: _, fl => endsR w r fl
end
theorem orB_len {a b : List Bool} {n : Nat} (h : a.length = n) (g : b.length = n) : (orB a b).length = n := by simp [orB, h, g]
theorem rounds_len {f : List Bool → List Bool} {n : Nat} (hf : ∀ l, l.length = n → (f l).length = n) {one : Bool} : ∀ (m : Nat) (l : List Bool), l.length = n → (roundsB f one m l).length = n
  | 0, l, h => h
  | m + 1, l, h => by
    simp only [roundsB]
    have := orB_len h (hf l h)
    split
    · exact this
    · exact rounds_len hf m _ this
mutual
theorem ends_len (w : List Int) : ∀ (r : Rx) (fl : List Bool), fl.length = w.length + 1 → (endsR w r fl).length = w.length + 1
  | .mk k s l, fl, h => by
    simp only [endsR]
    split
    · exact h
    split
    · simp [stepB, h]
    split
    · exact endsCat_len w l fl h
    split
    · exact endsAlt_len w l fl _ h (by simp)
    split
    · exact rounds_len (fun x hx => endsOne_len w l x hx) _ fl h
    · simp
theorem endsCat_len (w : List Int) : ∀ (l : List Rx) (fl : List Bool), fl.length = w.length + 1 → (endsCat w l fl).length = w.length + 1
  | [], fl, h => h
  | r :: l, fl, h => endsCat_len w l _ (ends_len w r fl h)
theorem endsAlt_len (w : List Int) : ∀ (l : List Rx) (fl acc : List Bool), fl.length = w.length + 1 → acc.length = w.length + 1 → (endsAlt w l fl acc).length = w.length + 1
  | [], fl, acc, h, g => g
  | r :: l, fl, acc, h, g => endsAlt_len w l fl _ h (orB_len g (ends_len w r fl h))
theorem endsOne_len (w : List Int) : ∀ (l : List Rx) (fl : List Bool), fl.length = w.length + 1 → (endsOne w l fl).length = w.length + 1
  | [], fl, h => h
  | r :: _, fl, h => ends_len w r fl h
end
structure St (H0 H : Heap) (m q : Nat) (R : D) (fl : List Bool) : Prop where
  same : Same m H0 H
  rx : hget H m = .arr [R]
  fr : hget H q = .arr (bsD fl)
  lt : q < m
theorem St.set {H0 H : Heap} {m q p : Nat} {R : D} {fl : List Bool} {ob : Ob} (h : St H0 H m q R fl) (hp : m < p) : St H0 (H.set p ob) m q R fl :=
  ⟨h.same.trans (Same.set (by omega)), by rw [hget_set_ne (by omega)]; exact h.rx, by have := h.lt; rw [hget_set_ne (by omega)]; exact h.fr, h.lt⟩
theorem St.call {H0 H H' : Heap} {m q : Nat} {R : D} {fl : List Bool} (h : St H0 H m q R fl) (g : Same H.length H H') : St H0 H' m q R fl := by
  have h1 := lt_of_hget h.rx
  have h2 := h.lt
  exact ⟨h.same.trans (g.le (by omega)), by rw [g.2 m h1]; exact h.rx, by rw [g.2 q (by omega)]; exact h.fr, h.lt⟩
end Go.Proofs.W
end
/- Expressions: whether they have a word. -/
section
set_option maxHeartbeats 4000000
set_option linter.unusedVariables false
set_option linter.unusedSimpArgs false
namespace Go.Proofs.W
open Go Vm Go.Proofs.Zs7z

mutual
theorem ends_nil : ∀ (r : Rx) (hs : shapesR r = true) (b : Bool), endsR [] r [b] = [b && emptyR r]
  | .mk k s l, hs, b => by
    simp only [shapesR, Bool.and_eq_true] at hs
    have hs1 := hs.1
    simp only [endsR, emptyR]
    by_cases h0 : k = 0
    · subst h0; simp
    rw [if_neg h0]
    by_cases h1 : k = 1
    · subst h1; simp [stepB]
    rw [if_neg h1, if_neg h1]
    by_cases h2 : k = 2
    · subst h2; simp only [if_true]; exact endsCat_nil l hs.2 b
    rw [if_neg h2, if_neg h2]
    by_cases h3 : k = 3
    · subst h3; simp only [if_true, List.length_nil, Nat.zero_add, List.replicate_one]; rw [endsAlt_nil l hs.2 b false]; simp
    rw [if_neg h3, if_neg h3]
    by_cases h4 : k = 4 ∨ k = 5
    · rw [if_pos h4]
      simp only [Bool.and_true, List.length_nil, Nat.zero_add, roundsB]
      have := endsOne_nil l hs.2 b
      obtain ⟨c, hc⟩ := this
      rw [hc]
      have : orB [b] [b && c] = [b] := by cases b <;> simp [orB]
      rw [this]; simp
    · simp [shape1, h0, h1, h2, h3, h4] at hs1
theorem endsCat_nil : ∀ (l : List Rx) (hs : shapesL l = true) (b : Bool), endsCat [] l [b] = [b && emptyR.emptyAll l]
  | [], hs, b => by simp [endsCat, emptyR.emptyAll]
  | r :: l, hs, b => by
    simp only [shapesL, Bool.and_eq_true] at hs
    simp only [endsCat, emptyR.emptyAll, ends_nil r hs.1, endsCat_nil l hs.2, Bool.and_assoc]
theorem endsAlt_nil : ∀ (l : List Rx) (hs : shapesL l = true) (b a : Bool), endsAlt [] l [b] [a] = [a || (b && emptyR.emptyAny l)]
  | [], hs, b, a => by simp [endsAlt, emptyR.emptyAny]
  | r :: l, hs, b, a => by
    simp only [shapesL, Bool.and_eq_true] at hs
    simp only [endsAlt, emptyR.emptyAny, ends_nil r hs.1, orB, List.zipWith_cons_cons, List.zipWith_nil_left, endsAlt_nil l hs.2, Bool.and_or_distrib_left, Bool.or_assoc]
theorem endsOne_nil : ∀ (l : List Rx) (hs : shapesL l = true) (b : Bool), ∃ c, endsOne [] l [b] = [b && c]
  | [], hs, b => ⟨true, by simp [endsOne]⟩
  | r :: l, hs, b => by
    simp only [shapesL, Bool.and_eq_true] at hs
    exact ⟨_, ends_nil r hs.1 b⟩
end
def startB (n : Nat) : List Bool := true :: List.replicate n false
def hasR (w : List Int) (r : Rx) : Bool := (endsR w r (startB w.length)).getD w.length false
theorem start_len (n : Nat) : (startB n).length = n + 1 := by simp [startB]
end Go.Proofs.W
end
/- Machines with free steps: the document's lists, steps and ends. -/
section
set_option maxHeartbeats 4000000
set_option linter.unusedVariables false
set_option linter.unusedSimpArgs false
namespace Go.Proofs.W
open Go Vm Go.Proofs.Zs7z

/-- the numbers of a table -/
def listZ (k : Nat) (p : Nat → Bool) : List Int := ((List.range k).filter p).map fun (i : Nat) => (i : Int)
theorem listZ_succ {k : Nat} {p : Nat → Bool} : listZ (k + 1) p = listZ k p ++ if p k then [(k : Int)] else [] := by
  unfold listZ
  rw [List.range_succ, List.filter_append, List.map_append]
  congr 1
  by_cases h : p k = true <;> simp [h]
theorem listZ_len (k : Nat) (p : Nat → Bool) : (listZ k p).length ≤ k := by
  have := List.length_filter_le p (List.range k)
  simp [listZ] at this ⊢; exact this
theorem mem_listZ {k : Nat} {p : Nat → Bool} {s : Int} : s ∈ listZ k p ↔ ∃ i, i < k ∧ p i = true ∧ s = i := by
  simp only [listZ, List.mem_map, List.mem_filter, List.mem_range]
  exact ⟨fun ⟨a, ⟨h1, h2⟩, h3⟩ => ⟨a, h1, h2, h3.symm⟩, fun ⟨a, h1, h2, h3⟩ => ⟨a, ⟨h1, h2⟩, h3.symm⟩⟩
/-- a state has a step by a category -/
def hit (n : Nfa) (c : Int) (i : Nat) : Bool := inB (n.set.getD i 0) c
/-- those to which states ahead of one step -/
def stepTo (n : Nfa) (c : Int) (p : Nat → Bool) (j t : Nat) : Bool := (List.range j).any fun i => p i && hit n c i && decide (n.to.getD i 0 = (t : Int))
theorem stepTo_succ {n : Nfa} {c : Int} {p : Nat → Bool} {j t : Nat} : stepTo n c p (j + 1) t = (stepTo n c p j t || (p j && hit n c j && decide (n.to.getD j 0 = (t : Int)))) := by
  simp only [stepTo, List.range_succ, List.any_append, List.any_cons, List.any_nil, Bool.or_false]
theorem bitZ_zero (c : Int) : bitZ 0 c = false := by
  simp [bitZ, IntKind.wrap, IntKind.bits, IntKind.signed]
theorem right_row {n : Nfa} (h : rightN n = true) : 1 ≤ n.set.length ∧ n.set.length ≤ 3300 ∧ n.free.length = n.set.length ∧ n.to.length = n.set.length ∧ n.rule.length = n.set.length ∧ ∀ i, i < n.set.length → rowOk n i = true := by
  simp only [rightN, Bool.and_eq_true, decide_eq_true_eq, allN_iff] at h
  exact ⟨h.1.1, h.1.2.1, h.1.2.2.1, h.1.2.2.2.1, h.1.2.2.2.2, fun i hi => h.2 i (by omega) (by omega)⟩
theorem right_hit {n : Nfa} (h : rightN n = true) {c : Int} {i : Nat} (hi : i < n.set.length) (hh : hit n c i = true) : 0 ≤ n.to.getD i 0 ∧ n.to.getD i 0 < n.set.length := by
  have := (right_row h).2.2.2.2.2 i hi
  simp only [rowOk, Bool.and_eq_true, Bool.not_eq_true', Bool.and_eq_false_iff, decide_eq_false_iff_not] at this
  rcases this.1.1.1 with h1 | h1
  · have h1 : n.set.getD i 0 = 0 := by omega
    rw [hit, h1] at hh
    simp [inB, bitZ_zero] at hh
  · exact isS_iff.1 (by simpa using h1)
end Go.Proofs.W
end
/- Machines with free steps: the document's steps and ends, walked. -/
section
set_option maxHeartbeats 4000000
set_option linter.unusedVariables false
set_option linter.unusedSimpArgs false
namespace Go.Proofs.W
open Go Vm Go.Proofs.Zs7z

theorem conv_u64 (c : Int) (H : Heap) : convD Tryz.prog 3 88 (.int .i64 c) H = some (.int .u64 (IntKind.u64.wrap c), H) := by
  simp only [convD_eq, un3, un88]; rfl
theorem hit_bit {n : Nfa} {c s : Int} {j : Nat} (h0 : 0 ≤ c) (h1 : c < 16) (hs : n.set.getD j 0 = s) : hit n c j = bitZ s c := by
  simp only [hit, inB, h0, h1, hs, decide_true, Bool.true_and]
theorem stepR_ok (n : Nfa) (c : Int) (p : Nat → Bool) (hn : rightN n = true) : PureF Tryz.prog A 24 [nfaD n, tD n.set.length p, .int .i64 c] (tD n.set.length (stepTo n c p n.set.length)) := by
  obtain ⟨hk, hk2, hf, ht, hr, hrow⟩ := right_row hn
  generalize hkk : n.set.length = k at *
  refine evF_inB (n := 50) (rs := [.tmp 6]) Tryz.func24 rfl rfl rfl rfl rfl rfl ?_
  repeat' (first | refine wz1 ?_ | refine wz2 ?_ | refine wz3 ?_ | refine wz4 ?_ | refine wz5 ?_ | refine wz6 ?_ | simp -dsimp (maxSteps:=999999) (disch:=omega) only[go_sem,simprocAttr, *,tD, nfaD] | ((first | refine wz8 (fun hh => ?_) (fun hh => ?_) | refine wz9 (fun hh => ?_) (fun hh => ?_) | refine wpB_cond (by simp -dsimp (maxSteps:=999999) (disch:=omega) only[go_sem,simprocAttr, *,tD, nfaD]; exact rfl) (fun hh => ?_) (fun hh => ?_)) <;> (try replace hh := vqs hh) <;> (try (exfalso; first | exact hh | omega))))
  refine wpB_loop (fun e H => ∃ (j : Nat) (q : Nat → Bool), j ≤ k ∧ H = [Ob.arr [nfaD n], Ob.arr (tabD k q)] ∧ e 1 = tD k p ∧ e 2 = .int .i64 c ∧ e 3 = .ptr 0 0 0 ∧ e 7 = .vec 1 0 k ∧ e 8 = .int .i64 j ∧ ∀ s, s < k → q s = stepTo n c p j s) (fun e H => k - natOf (e 8)) ?_ ?_
  · exact ⟨0, _, by omega, rfl, by simp -dsimp (maxSteps:=999999) (disch:=omega) only[go_sem,simprocAttr, *,tD], gs, gs, gs, gs, fun s _ => rfl⟩
  · rintro e H ⟨j, q, hj, rfl, e1, e2, e3, e7, e8, hq⟩ R hR
    by_cases hb : j < k
    · have hhd := head_tabD k p
      have hvs := tab_size (H := [Ob.arr [nfaD n], Ob.arr (tabD k q)]) (r := 1) rfl hk
      obtain ⟨s, hs1, hs2⟩ := ex_at (l := n.set) (i := j) 0 (by omega)
      obtain ⟨t, ht1, ht2⟩ := ex_at (l := n.to) (i := j) 0 (by omega)
      have no : (p j && hit n c j) = false → ∀ s, s < k → q s = stepTo n c p (j + 1) s := fun h s hs => by rw [hq s hs, stepTo_succ, h]; simp
      have hbit := fun h0 h1 => hit_bit (n := n) (c := c) h0 h1 hs2
      have hto := right_hit hn (c := c) (i := j) (by omega)
      rw [ht2, hkk] at hto
      simp only [bitZ] at hbit
      cases hpj : p j with
      | false =>
        repeat' (first | refine wz1 ?_ | refine wz2 ?_ | refine wz3 ?_ | refine wz4 ?_ | refine wz5 ?_ | refine wz6 ?_ | simp -dsimp (maxSteps:=999999) (disch:=omega) only[go_sem,simprocAttr, *,tD, nfaD, u16D, isD] | ((first | refine wz8 (fun hh => ?_) (fun hh => ?_) | refine wz9 (fun hh => ?_) (fun hh => ?_) | refine wpB_cond (by simp -dsimp (maxSteps:=999999) (disch:=omega) only[go_sem,simprocAttr, *,tD, nfaD, u16D, isD]; exact rfl) (fun hh => ?_) (fun hh => ?_)) <;> (try replace hh := vqs hh) <;> (try (exfalso; first | exact hh | omega))))
        refine hR _ _ ⟨j + 1, q, by omega, by simp -dsimp (maxSteps:=999999) (disch:=omega) only[go_sem,simprocAttr, *,nfaD, u16D, isD], by simp -dsimp (maxSteps:=999999) (disch:=omega) only[go_sem,simprocAttr, *,tD], gs, gs, gs, gs, no (by rw [hpj]; rfl)⟩ ?_
        simp -dsimp (maxSteps:=999999) (disch:=omega) only[go_sem,simprocAttr, *,natOf_int]
      | true =>
        cases hht : hit n c j with
        | false =>
          by_cases h0 : 0 ≤ c
          · by_cases h1 : c < 16
            · replace hbit := (hbit h0 h1).symm.trans hht
              repeat' (first | refine wz1 ?_ | refine wz2 ?_ | refine wz3 ?_ | refine wz4 ?_ | refine wz5 ?_ | refine wz6 ?_ | simp -dsimp (maxSteps:=999999) (disch:=omega) only[go_sem,simprocAttr, *,tD, nfaD, u16D, isD, conv_u64] | ((first | refine wz8 (fun hh => ?_) (fun hh => ?_) | refine wz9 (fun hh => ?_) (fun hh => ?_) | refine wpB_cond (by simp -dsimp (maxSteps:=999999) (disch:=omega) only[go_sem,simprocAttr, *,tD, nfaD, u16D, isD, conv_u64]; exact rfl) (fun hh => ?_) (fun hh => ?_)) <;> (try replace hh := vqs hh) <;> (try (exfalso; first | exact hh | omega))))
              · exact absurd (hbit.symm.trans (beq_iff_eq.2 (by assumption))) (by decide)
              · refine hR _ _ ⟨j + 1, q, by omega, by simp -dsimp (maxSteps:=999999) (disch:=omega) only[go_sem,simprocAttr, *,nfaD, u16D, isD], by simp -dsimp (maxSteps:=999999) (disch:=omega) only[go_sem,simprocAttr, *,tD], gs, gs, gs, gs, no (by rw [hht]; simp)⟩ ?_
                simp -dsimp (maxSteps:=999999) (disch:=omega) only[go_sem,simprocAttr, *,natOf_int]
            · clear hbit hto
              repeat' (first | refine wz1 ?_ | refine wz2 ?_ | refine wz3 ?_ | refine wz4 ?_ | refine wz5 ?_ | refine wz6 ?_ | simp -dsimp (maxSteps:=999999) (disch:=omega) only[go_sem,simprocAttr, *,tD, nfaD, u16D, isD] | ((first | refine wz8 (fun hh => ?_) (fun hh => ?_) | refine wz9 (fun hh => ?_) (fun hh => ?_) | refine wpB_cond (by simp -dsimp (maxSteps:=999999) (disch:=omega) only[go_sem,simprocAttr, *,tD, nfaD, u16D, isD]; exact rfl) (fun hh => ?_) (fun hh => ?_)) <;> (try replace hh := vqs hh) <;> (try (exfalso; first | exact hh | omega))))
              refine hR _ _ ⟨j + 1, q, by omega, by simp -dsimp (maxSteps:=999999) (disch:=omega) only[go_sem,simprocAttr, *,nfaD, u16D, isD], by simp -dsimp (maxSteps:=999999) (disch:=omega) only[go_sem,simprocAttr, *,tD], gs, gs, gs, gs, no (by rw [hht]; simp)⟩ ?_
              simp -dsimp (maxSteps:=999999) (disch:=omega) only[go_sem,simprocAttr, *,natOf_int]
          · clear hbit hto
            repeat' (first | refine wz1 ?_ | refine wz2 ?_ | refine wz3 ?_ | refine wz4 ?_ | refine wz5 ?_ | refine wz6 ?_ | simp -dsimp (maxSteps:=999999) (disch:=omega) only[go_sem,simprocAttr, *,tD, nfaD, u16D, isD] | ((first | refine wz8 (fun hh => ?_) (fun hh => ?_) | refine wz9 (fun hh => ?_) (fun hh => ?_) | refine wpB_cond (by simp -dsimp (maxSteps:=999999) (disch:=omega) only[go_sem,simprocAttr, *,tD, nfaD, u16D, isD]; exact rfl) (fun hh => ?_) (fun hh => ?_)) <;> (try replace hh := vqs hh) <;> (try (exfalso; first | exact hh | omega))))
            refine hR _ _ ⟨j + 1, q, by omega, by simp -dsimp (maxSteps:=999999) (disch:=omega) only[go_sem,simprocAttr, *,nfaD, u16D, isD], by simp -dsimp (maxSteps:=999999) (disch:=omega) only[go_sem,simprocAttr, *,tD], gs, gs, gs, gs, no (by rw [hht]; simp)⟩ ?_
            simp -dsimp (maxSteps:=999999) (disch:=omega) only[go_sem,simprocAttr, *,natOf_int]
        | true =>
          have hc : 0 ≤ c ∧ c < 16 := by
            simp only [hit, inB, Bool.and_eq_true, decide_eq_true_eq] at hht
            exact hht.1
          obtain ⟨h0, h1⟩ := hc
          replace hbit := (hbit h0 h1).symm.trans hht
          obtain ⟨ht3, ht4⟩ := hto hht
          clear hto
          repeat' (first | refine wz1 ?_ | refine wz2 ?_ | refine wz3 ?_ | refine wz4 ?_ | refine wz5 ?_ | refine wz6 ?_ | simp -dsimp (maxSteps:=999999) (disch:=omega) only[go_sem,simprocAttr, *,tD, nfaD, u16D, isD, conv_u64] | ((first | refine wz8 (fun hh => ?_) (fun hh => ?_) | refine wz9 (fun hh => ?_) (fun hh => ?_) | refine wpB_cond (by simp -dsimp (maxSteps:=999999) (disch:=omega) only[go_sem,simprocAttr, *,tD, nfaD, u16D, isD, conv_u64]; exact rfl) (fun hh => ?_) (fun hh => ?_)) <;> (try replace hh := vqs hh) <;> (try (exfalso; first | exact hh | omega))))
          rotate_left
          · exact absurd (beq_iff_eq.1 hbit) (by assumption)
          refine hR _ _ ⟨j + 1, fun i => if i = t.toNat then true else q i, by omega, by simp -dsimp (maxSteps:=999999) (disch:=omega) only[go_sem,simprocAttr, *,nfaD, u16D, isD], by simp -dsimp (maxSteps:=999999) (disch:=omega) only[go_sem,simprocAttr, *,tD], gs, gs, gs, gs, fun s hs => ?_⟩ ?_
          · rw [stepTo_succ, hpj, hht, ht2]
            show (if s = t.toNat then true else q s) = _
            by_cases h : s = t.toNat
            · rw [if_pos h, show decide (t = (s : Int)) = true by simp; omega]; simp
            · rw [if_neg h, hq s hs, show decide (t = (s : Int)) = false by simp; omega]; simp
          · simp -dsimp (maxSteps:=999999) (disch:=omega) only[go_sem,simprocAttr, *,natOf_int]
    · repeat' (first | refine wz1 ?_ | refine wz2 ?_ | refine wz3 ?_ | refine wz4 ?_ | refine wz5 ?_ | refine wz6 ?_ | simp -dsimp (maxSteps:=999999) (disch:=omega) only[go_sem,simprocAttr, *,tD, nfaD] | ((first | refine wz8 (fun hh => ?_) (fun hh => ?_) | refine wz9 (fun hh => ?_) (fun hh => ?_) | refine wpB_cond (by simp -dsimp (maxSteps:=999999) (disch:=omega) only[go_sem,simprocAttr, *,tD, nfaD]; exact rfl) (fun hh => ?_) (fun hh => ?_)) <;> (try replace hh := vqs hh) <;> (try (exfalso; first | exact hh | omega))))
      rw [out_tab (k := k) (p := q) rfl hk (by simp)]
      refine congrArg (fun x => some (D.sl false x)) (tabD_congr fun s hs => ?_)
      rw [hq s hs, show j = k by omega]
/-- the least of those that aren't below nothing; -1: none is -/
def bestFrom (o : Int) (l : List Int) : Int := l.foldl (fun o r => if 0 ≤ r ∧ (o < 0 ∨ r < o) then r else o) o
theorem bestFrom_cons {o r : Int} {l : List Int} : bestFrom o (r :: l) = bestFrom (if 0 ≤ r ∧ (o < 0 ∨ r < o) then r else o) l := rfl
theorem bestFrom_spec : ∀ (l : List Int) (o : Int), -1 ≤ o → -1 ≤ bestFrom o l ∧ (∀ r ∈ l, 0 ≤ r → 0 ≤ bestFrom o l ∧ bestFrom o l ≤ r) ∧ (0 ≤ o → 0 ≤ bestFrom o l ∧ bestFrom o l ≤ o) ∧ (bestFrom o l = o ∨ bestFrom o l ∈ l)
  | [], o, ho => ⟨ho, (fun r h => by cases h), fun h => ⟨h, Int.le_refl _⟩, .inl rfl⟩
  | r :: l, o, ho => by
    rw [bestFrom_cons]
    by_cases hc : 0 ≤ r ∧ (o < 0 ∨ r < o)
    · rw [if_pos hc]
      obtain ⟨h1, h2, h3, h4⟩ := bestFrom_spec l r (by omega)
      have h3' := h3 hc.1
      refine ⟨h1, fun x hx h0 => ?_, fun h0 => by omega, ?_⟩
      · rcases List.mem_cons.1 hx with rfl | hx
        · exact h3'
        · exact h2 x hx h0
      · rcases h4 with h4 | h4
        · exact .inr (by rw [h4]; simp)
        · exact .inr (by simp [h4])
    · rw [if_neg hc]
      obtain ⟨h1, h2, h3, h4⟩ := bestFrom_spec l o ho
      refine ⟨h1, fun x hx h0 => ?_, h3, ?_⟩
      · rcases List.mem_cons.1 hx with rfl | hx
        · have := h3 (by omega)
          omega
        · exact h2 x hx h0
      · rcases h4 with h4 | h4
        · exact .inl h4
        · exact .inr (by simp [h4])
theorem best_eq {l : List Int} {v : Int} (h : (v = -1 ∧ ∀ r ∈ l, r < 0) ∨ (0 ≤ v ∧ v ∈ l ∧ ∀ r ∈ l, 0 ≤ r → v ≤ r)) : bestFrom (-1) l = v := by
  obtain ⟨h1, h2, h3, h4⟩ := bestFrom_spec l (-1) (by omega)
  rcases h with ⟨rfl, h⟩ | ⟨h0, hm, hl⟩
  · rcases h4 with h4 | h4
    · exact h4
    · have := h _ h4; omega
  · have h5 := h2 v hm h0
    rcases h4 with h4 | h4
    · omega
    · have := hl _ h4 h5.1; omega
def endsZ (n : Nfa) (l : List Int) : Int := bestFrom (-1) (l.map fun s => n.rule.getD s.toNat 0)
theorem endsR_ok (n : Nfa) (p : Nat → Bool) (hn : rightN n = true) : PureF Tryz.prog A 26 [nfaD n, tD n.set.length p] (.int .i64 (endsZ n (listZ n.set.length p))) := by
  obtain ⟨hk, hk2, hf, ht, hr, hrow⟩ := right_row hn
  have hrow2 : ∀ i, i < n.set.length → -1 ≤ n.rule.getD i 0 ∧ n.rule.getD i 0 < 16 := fun i hi => by
    have := hrow i hi
    simp only [rowOk, Bool.and_eq_true, decide_eq_true_eq] at this
    exact ⟨this.1.1.2, this.1.2⟩
  have hmem : ∀ r, r ∈ (listZ n.set.length p).map (fun s => n.rule.getD s.toNat 0) ↔ ∃ i, i < n.set.length ∧ p i = true ∧ r = n.rule.getD i 0 := fun r => by
    simp only [List.mem_map, mem_listZ]
    exact ⟨fun ⟨s, ⟨i, h1, h2, h3⟩, h4⟩ => ⟨i, h1, h2, by subst h3; exact h4.symm⟩, fun ⟨i, h1, h2, h3⟩ => ⟨i, ⟨i, h1, h2, rfl⟩, by rw [h3]; rfl⟩⟩
  generalize hkk : n.set.length = k at *
  refine evF_inB (n := 31) (rs := [.tmp 4]) Tryz.func26 rfl rfl rfl rfl rfl rfl ?_
  repeat' (first | refine wz1 ?_ | refine wz2 ?_ | refine wz3 ?_ | refine wz4 ?_ | refine wz5 ?_ | refine wz6 ?_ | simp -dsimp (maxSteps:=999999) (disch:=omega) only[go_sem,simprocAttr, *,tD, nfaD] | ((first | refine wz8 (fun hh => ?_) (fun hh => ?_) | refine wz9 (fun hh => ?_) (fun hh => ?_) | refine wpB_cond (by simp -dsimp (maxSteps:=999999) (disch:=omega) only[go_sem,simprocAttr, *,tD, nfaD]; exact rfl) (fun hh => ?_) (fun hh => ?_)) <;> (try replace hh := vqs hh) <;> (try (exfalso; first | exact hh | omega))))
  refine wpB_loop (fun e H => ∃ (r : Nat), r ≤ 16 ∧ H = [Ob.arr [nfaD n]] ∧ e 1 = tD k p ∧ e 2 = .ptr 0 0 0 ∧ e 5 = .int .i64 r ∧ ∀ i, i < k → p i = true → 0 ≤ n.rule.getD i 0 → (r : Int) ≤ n.rule.getD i 0) (fun e H => 16 - natOf (e 5)) ?_ ?_
  · exact ⟨0, by omega, rfl, by simp -dsimp (maxSteps:=999999) (disch:=omega) only[go_sem,simprocAttr, *,tD], gs, gs, fun i _ _ h => h⟩
  · rintro e H ⟨r, hr0, rfl, e1, e2, e5, hno⟩ R hR
    by_cases hb : r < 16
    · repeat' (first | refine wz1 ?_ | refine wz2 ?_ | refine wz3 ?_ | refine wz4 ?_ | refine wz5 ?_ | refine wz6 ?_ | simp -dsimp (maxSteps:=999999) (disch:=omega) only[go_sem,simprocAttr, *,tD] | ((first | refine wz8 (fun hh => ?_) (fun hh => ?_) | refine wz9 (fun hh => ?_) (fun hh => ?_) | refine wpB_cond (by simp -dsimp (maxSteps:=999999) (disch:=omega) only[go_sem,simprocAttr, *,tD]; exact rfl) (fun hh => ?_) (fun hh => ?_)) <;> (try replace hh := vqs hh) <;> (try (exfalso; first | exact hh | omega))))
      refine wpB_loop (fun e H => ∃ (j : Nat), j ≤ k ∧ H = [Ob.arr [nfaD n]] ∧ e 1 = tD k p ∧ e 2 = .ptr 0 0 0 ∧ e 5 = .int .i64 r ∧ e 6 = .int .i64 j ∧ ∀ i, i < j → p i = true → n.rule.getD i 0 ≠ r) (fun e H => k - natOf (e 6)) ?_ ?_
      · exact ⟨0, by omega, rfl, by simp -dsimp (maxSteps:=999999) (disch:=omega) only[go_sem,simprocAttr, *,tD], gs, gs, gs, fun i h => by omega⟩
      · rintro e H ⟨j, hj, rfl, e1, e2, e5, e6, hno2⟩ R2 hR2
        by_cases hb2 : j < k
        · have hhd := head_tabD k p
          obtain ⟨t, ht1, ht2⟩ := ex_at (l := n.rule) (i := j) 0 (by omega)
          cases hpj : p j with
          | false =>
            repeat' (first | refine wz1 ?_ | refine wz2 ?_ | refine wz3 ?_ | refine wz4 ?_ | refine wz5 ?_ | refine wz6 ?_ | simp -dsimp (maxSteps:=999999) (disch:=omega) only[go_sem,simprocAttr, *,tD, nfaD, isD] | ((first | refine wz8 (fun hh => ?_) (fun hh => ?_) | refine wz9 (fun hh => ?_) (fun hh => ?_) | refine wpB_cond (by simp -dsimp (maxSteps:=999999) (disch:=omega) only[go_sem,simprocAttr, *,tD, nfaD, isD]; exact rfl) (fun hh => ?_) (fun hh => ?_)) <;> (try replace hh := vqs hh) <;> (try (exfalso; first | exact hh | omega))))
            refine hR2 _ _ ⟨j + 1, by omega, by simp -dsimp (maxSteps:=999999) (disch:=omega) only[go_sem,simprocAttr, *,nfaD, isD], by simp -dsimp (maxSteps:=999999) (disch:=omega) only[go_sem,simprocAttr, *,tD], gs, gs, gs, fun i hi hp => ?_⟩ ?_
            · by_cases he : i = j
              · subst he; rw [hpj] at hp; cases hp
              · exact hno2 i (by omega) hp
            · simp -dsimp (maxSteps:=999999) (disch:=omega) only[go_sem,simprocAttr, *,natOf_int]
          | true =>
            repeat' (first | refine wz1 ?_ | refine wz2 ?_ | refine wz3 ?_ | refine wz4 ?_ | refine wz5 ?_ | refine wz6 ?_ | simp -dsimp (maxSteps:=999999) (disch:=omega) only[go_sem,simprocAttr, *,tD, nfaD, isD] | ((first | refine wz8 (fun hh => ?_) (fun hh => ?_) | refine wz9 (fun hh => ?_) (fun hh => ?_) | refine wpB_cond (by simp -dsimp (maxSteps:=999999) (disch:=omega) only[go_sem,simprocAttr, *,tD, nfaD, isD]; exact rfl) (fun hh => ?_) (fun hh => ?_)) <;> (try replace hh := vqs hh) <;> (try (exfalso; first | exact hh | omega))))
            · refine congrArg (fun x => some (D.int .i64 x)) (best_eq (.inr ⟨by omega, (hmem _).2 ⟨j, hb2, hpj, by omega⟩, fun x hx h0 => ?_⟩)).symm
              obtain ⟨i, h1, h2, rfl⟩ := (hmem x).1 hx
              exact hno i h1 h2 h0
            · refine hR2 _ _ ⟨j + 1, by omega, by simp -dsimp (maxSteps:=999999) (disch:=omega) only[go_sem,simprocAttr, *,nfaD, isD], by simp -dsimp (maxSteps:=999999) (disch:=omega) only[go_sem,simprocAttr, *,tD], gs, gs, gs, fun i hi hp => ?_⟩ ?_
              · by_cases he : i = j
                · subst he; omega
                · exact hno2 i (by omega) hp
              · simp -dsimp (maxSteps:=999999) (disch:=omega) only[go_sem,simprocAttr, *,natOf_int]
        · repeat' (first | refine wz1 ?_ | refine wz2 ?_ | refine wz3 ?_ | refine wz4 ?_ | refine wz5 ?_ | refine wz6 ?_ | simp -dsimp (maxSteps:=999999) (disch:=omega) only[go_sem,simprocAttr, *,tD] | ((first | refine wz8 (fun hh => ?_) (fun hh => ?_) | refine wz9 (fun hh => ?_) (fun hh => ?_) | refine wpB_cond (by simp -dsimp (maxSteps:=999999) (disch:=omega) only[go_sem,simprocAttr, *,tD]; exact rfl) (fun hh => ?_) (fun hh => ?_)) <;> (try replace hh := vqs hh) <;> (try (exfalso; first | exact hh | omega))))
          refine hR _ _ ⟨r + 1, by omega, by simp -dsimp (maxSteps:=999999) (disch:=omega) only[go_sem,simprocAttr, *,nfaD, isD], by simp -dsimp (maxSteps:=999999) (disch:=omega) only[go_sem,simprocAttr, *,tD], gs, gs, fun i hi hp h0 => ?_⟩ ?_
          · have h1 := hno i hi hp h0
            have h2 := hno2 i (by omega) hp
            omega
          · simp -dsimp (maxSteps:=999999) (disch:=omega) only[go_sem,simprocAttr, *,natOf_int]
    · repeat' (first | refine wz1 ?_ | refine wz2 ?_ | refine wz3 ?_ | refine wz4 ?_ | refine wz5 ?_ | refine wz6 ?_ | simp -dsimp (maxSteps:=999999) (disch:=omega) only[go_sem,simprocAttr, *,tD] | ((first | refine wz8 (fun hh => ?_) (fun hh => ?_) | refine wz9 (fun hh => ?_) (fun hh => ?_) | refine wpB_cond (by simp -dsimp (maxSteps:=999999) (disch:=omega) only[go_sem,simprocAttr, *,tD]; exact rfl) (fun hh => ?_) (fun hh => ?_)) <;> (try replace hh := vqs hh) <;> (try (exfalso; first | exact hh | omega))))
      refine congrArg (fun x => some (D.int .i64 x)) (best_eq (.inl ⟨rfl, fun x hx => ?_⟩)).symm
      obtain ⟨i, h1, h2, rfl⟩ := (hmem x).1 hx
      have h3 := hno i h1 h2
      have h4 := hrow2 i h1
      omega
end Go.Proofs.W
end
/- Machines with free steps: what free steps lead to; the document's closed tables. -/
section
set_option maxHeartbeats 4000000
set_option linter.unusedVariables false
set_option linter.unusedSimpArgs false
namespace Go.Proofs.W
open Go Vm Go.Proofs.Zs7z

inductive Reach (n : Nfa) (p : Nat → Prop) : Nat → Prop
  | base {s : Nat} : p s → Reach n p s
  | step {s t : Nat} : Reach n p s → (t : Int) ∈ n.free.getD s [] → Reach n p t
noncomputable def clo (n : Nfa) (p : Nat → Prop) (s : Nat) : Bool := @decide (Reach n p s) (Classical.propDecidable _)
theorem clo_iff {n : Nfa} {p : Nat → Prop} {s : Nat} : clo n p s = true ↔ Reach n p s := by
  unfold clo; exact @decide_eq_true_iff _ (Classical.propDecidable _)
theorem right_free {n : Nfa} (h : rightN n = true) {i : Nat} (hi : i < n.set.length) {x : Int} (hx : x ∈ n.free.getD i []) : 0 ≤ x ∧ x < n.set.length := by
  have := (right_row h).2.2.2.2.2 i hi
  simp only [rowOk, Bool.and_eq_true, List.all_eq_true] at this
  exact isS_iff.1 (this.2 x hx)
theorem clo_eq {n : Nfa} (hn : rightN n = true) {p : Nat → Prop} (hp : ∀ s, p s → s < n.set.length) {q : Nat → Bool} (h1 : ∀ s, s < n.set.length → p s → q s = true) (h2 : ∀ s, s < n.set.length → q s = true → Reach n p s)
    (h3 : ∀ s, s < n.set.length → q s = true → ∀ t : Nat, (t : Int) ∈ n.free.getD s [] → q t = true) : ∀ s, s < n.set.length → q s = clo n p s := by
  have key : ∀ s, Reach n p s → s < n.set.length ∧ q s = true := by
    intro s h
    induction h with
    | base h => exact ⟨hp _ h, h1 _ (hp _ h) h⟩
    | step h ht ih =>
      have := right_free hn ih.1 ht
      exact ⟨by omega, h3 _ ih.1 ih.2 _ ht⟩
  intro s hs
  rw [Bool.eq_iff_iff, clo_iff]
  exact ⟨h2 s hs, fun h => (key s h).2⟩
theorem closeR_ok (n : Nfa) (p : Nat → Bool) (hn : rightN n = true) (hfl : ∀ l ∈ n.free, l.length ≤ 1000000) : PureF Tryz.prog A 22 [nfaD n, tD n.set.length p] (tD n.set.length (clo n fun s => s < n.set.length ∧ p s = true)) := by
  obtain ⟨hk, hk2, hf, ht, hr, hrow⟩ := right_row hn
  have hceq := fun q => clo_eq hn (p := fun s => s < n.set.length ∧ p s = true) (fun s h => h.1) (q := q)
  have hfree := fun i hi x hx => right_free hn (i := i) hi (x := x) hx
  generalize hkk : n.set.length = k at *
  refine evF_inB (n := 75) (rs := [.tmp 4]) Tryz.func22 rfl rfl rfl rfl rfl rfl ?_
  repeat' (first | refine wz1 ?_ | refine wz2 ?_ | refine wz3 ?_ | refine wz4 ?_ | refine wz5 ?_ | refine wz6 ?_ | simp -dsimp (maxSteps:=999999) (disch:=omega) only[go_sem,simprocAttr, *,tD, nfaD] | ((first | refine wz8 (fun hh => ?_) (fun hh => ?_) | refine wz9 (fun hh => ?_) (fun hh => ?_) | refine wpB_cond (by simp -dsimp (maxSteps:=999999) (disch:=omega) only[go_sem,simprocAttr, *,tD, nfaD]; exact rfl) (fun hh => ?_) (fun hh => ?_)) <;> (try replace hh := vqs hh) <;> (try (exfalso; first | exact hh | omega))))
  refine wpB_loop (fun e H => ∃ (j : Nat) (q : Nat → Bool), j ≤ k ∧ H = [Ob.arr [nfaD n], Ob.arr (tabD k q)] ∧ e 1 = tD k p ∧ e 2 = .ptr 0 0 0 ∧ e 5 = .vec 1 0 k ∧ e 6 = .int .i64 j ∧ ∀ s, s < j → q s = p s) (fun e H => k - natOf (e 6)) ?_ ?_
  · exact ⟨0, _, by omega, rfl, by simp -dsimp (maxSteps:=999999) (disch:=omega) only[go_sem,simprocAttr, *,tD], gs, gs, gs, fun s h => by omega⟩
  rintro e H ⟨j, q, hj, rfl, e1, e2, e5, e6, hq⟩ R hR
  have hhd := head_tabD k p
  by_cases hb : j < k
  · repeat' (first | refine wz1 ?_ | refine wz2 ?_ | refine wz3 ?_ | refine wz4 ?_ | refine wz5 ?_ | refine wz6 ?_ | simp -dsimp (maxSteps:=999999) (disch:=omega) only[go_sem,simprocAttr, *,tD, nfaD] | ((first | refine wz8 (fun hh => ?_) (fun hh => ?_) | refine wz9 (fun hh => ?_) (fun hh => ?_) | refine wpB_cond (by simp -dsimp (maxSteps:=999999) (disch:=omega) only[go_sem,simprocAttr, *,tD, nfaD]; exact rfl) (fun hh => ?_) (fun hh => ?_)) <;> (try replace hh := vqs hh) <;> (try (exfalso; first | exact hh | omega))))
    refine hR _ _ ⟨j + 1, fun i => if i = j then p j else q i, by omega, by simp -dsimp (maxSteps:=999999) (disch:=omega) only[go_sem,simprocAttr, *,nfaD], by simp -dsimp (maxSteps:=999999) (disch:=omega) only[go_sem,simprocAttr, *,tD], gs, gs, gs, fun s hs => ?_⟩ ?_
    · show (if s = j then p j else q s) = p s
      by_cases h : s = j
      · rw [if_pos h, h]
      · rw [if_neg h]; exact hq s (by omega)
    · simp -dsimp (maxSteps:=999999) (disch:=omega) only[go_sem,simprocAttr, *,natOf_int]
  replace hq : ∀ s, s < k → q s = p s := fun s hs => hq s (by omega)
  repeat' (first | refine wz1 ?_ | refine wz2 ?_ | refine wz3 ?_ | refine wz4 ?_ | refine wz5 ?_ | refine wz6 ?_ | simp -dsimp (maxSteps:=999999) (disch:=omega) only[go_sem,simprocAttr, *,tD, nfaD] | ((first | refine wz8 (fun hh => ?_) (fun hh => ?_) | refine wz9 (fun hh => ?_) (fun hh => ?_) | refine wpB_cond (by simp -dsimp (maxSteps:=999999) (disch:=omega) only[go_sem,simprocAttr, *,tD, nfaD]; exact rfl) (fun hh => ?_) (fun hh => ?_)) <;> (try replace hh := vqs hh) <;> (try (exfalso; first | exact hh | omega))))
  refine wpB_loopM (fun m e H => ∃ (q : Nat → Bool) (b : Bool), m = cntF q k + (if b then 1 else 0) ∧ H = [Ob.arr [nfaD n], Ob.arr (tabD k q)] ∧ e 2 = .ptr 0 0 0 ∧ e 5 = .vec 1 0 k ∧ e 7 = .bool b ∧ (∀ s, s < k → p s = true → q s = true) ∧ (∀ s, s < k → q s = true → Reach n (fun s => s < k ∧ p s = true) s)
      ∧ (b = false → ∀ s, s < k → q s = true → ∀ t : Nat, (t : Int) ∈ n.free.getD s [] → q t = true)) (cntF q k + 1) ?_ ?_
  · exact ⟨q, true, by simp, by simp -dsimp (maxSteps:=999999) (disch:=omega) only[go_sem,simprocAttr, *,nfaD], gs, gs, gs, fun s h1 h2 => by rw [hq s h1]; exact h2, fun s h1 h2 => .base ⟨h1, by rw [← hq s h1]; exact h2⟩, by simp⟩
  clear hR hq e1 e2 e5 e6 hb hj
  rintro m e H ⟨q0, b, hm, rfl, e2, e5, e7, hq1, hq2, hq3⟩ R hR
  cases b with
  | false =>
    repeat' (first | refine wz1 ?_ | refine wz2 ?_ | refine wz3 ?_ | refine wz4 ?_ | refine wz5 ?_ | refine wz6 ?_ | simp -dsimp (maxSteps:=999999) (disch:=omega) only[go_sem,simprocAttr, *] | ((first | refine wz8 (fun hh => ?_) (fun hh => ?_) | refine wz9 (fun hh => ?_) (fun hh => ?_) | refine wz7 (fun hh => ?_) (fun hh => ?_)) <;> (try replace hh := vqs hh) <;> (try (exfalso; first | exact hh | omega))))
    rw [out_tab (k := k) (p := q0) rfl hk (by simp)]
    refine congrArg (fun x => some (D.sl false x)) (tabD_congr (hceq q0 (fun s _ h => hq1 s h.1 h.2) hq2 (hq3 rfl)))
  | true =>
    simp only [if_true] at hm
    clear hq3
    repeat' (first | refine wz1 ?_ | refine wz2 ?_ | refine wz3 ?_ | refine wz4 ?_ | refine wz5 ?_ | refine wz6 ?_ | simp -dsimp (maxSteps:=999999) (disch:=omega) only[go_sem,simprocAttr, *] | ((first | refine wz8 (fun hh => ?_) (fun hh => ?_) | refine wz9 (fun hh => ?_) (fun hh => ?_) | refine wz7 (fun hh => ?_) (fun hh => ?_)) <;> (try replace hh := vqs hh) <;> (try (exfalso; first | exact hh | omega))))
    refine wpB_loop (fun e H => ∃ (i : Nat) (q : Nat → Bool) (b : Bool), i ≤ k ∧ H = [Ob.arr [nfaD n], Ob.arr (tabD k q)] ∧ e 2 = .ptr 0 0 0 ∧ e 5 = .vec 1 0 k ∧ e 7 = .bool b ∧ e 8 = .int .i64 i ∧ (∀ s, s < k → q0 s = true → q s = true) ∧ (∀ s, s < k → q s = true → Reach n (fun s => s < k ∧ p s = true) s)
      ∧ (b = true → ∃ s, s < k ∧ q0 s = false ∧ q s = true) ∧ (b = false → ∀ s, s < i → q s = true → ∀ t : Nat, (t : Int) ∈ n.free.getD s [] → q t = true)) (fun e H => k - natOf (e 8)) ?_ ?_
    · exact ⟨0, q0, false, by omega, rfl, gs, gs, gs, gs, fun _ _ h => h, hq2, (by simp), fun _ s h => by omega⟩
    clear e2 e5 e7
    rintro eo H ⟨i, q, b, hi, rfl, e2, e5, e7, e8o, hs1, hs2, hs3, hs4⟩ R2 hR2
    by_cases hb : i < k
    · repeat' (first | refine wz1 ?_ | refine wz2 ?_ | refine wz3 ?_ | refine wz4 ?_ | refine wz5 ?_ | refine wz6 ?_ | simp -dsimp (maxSteps:=999999) (disch:=omega) only[go_sem,simprocAttr, *] | ((first | refine wz8 (fun hh => ?_) (fun hh => ?_) | refine wz9 (fun hh => ?_) (fun hh => ?_) | refine wz7 (fun hh => ?_) (fun hh => ?_)) <;> (try replace hh := vqs hh) <;> (try (exfalso; first | exact hh | omega))))
      obtain ⟨fr, hf1, hf2⟩ := ex_at (l := n.free) (i := i) [] (by omega)
      have hfx := hfree i hb
      rw [hf2] at hfx
      have hfrl := hfl fr (List.mem_of_getElem? hf1)
      refine wpB_loop (fun e H => ∃ (j : Nat) (q : Nat → Bool) (b : Bool), j ≤ fr.length ∧ H = [Ob.arr [nfaD n], Ob.arr (tabD k q)] ∧ e 2 = .ptr 0 0 0 ∧ e 5 = .vec 1 0 k ∧ e 7 = .bool b ∧ e 8 = .int .i64 i ∧ e 9 = .int .i64 j ∧ (∀ s, s < k → q0 s = true → q s = true) ∧ (∀ s, s < k → q s = true → Reach n (fun s => s < k ∧ p s = true) s)
        ∧ (b = true → ∃ s, s < k ∧ q0 s = false ∧ q s = true) ∧ (b = false → (∀ s, s < i → q s = true → ∀ t : Nat, (t : Int) ∈ n.free.getD s [] → q t = true) ∧ (q i = true → ∀ t : Nat, (t : Int) ∈ fr.take j → q t = true))) (fun e H => fr.length - natOf (e 9)) ?_ ?_
      · exact ⟨0, q, b, by omega, rfl, gs, gs, gs, gs, gs, hs1, hs2, hs3, fun h => ⟨hs4 h, fun _ t ht => by simp at ht⟩⟩
      clear e2 e5 e7 hs1 hs2 hs3 hs4
      rintro e H ⟨j, q, b, hj, rfl, e2, e5, e7, e8, e9, hs1, hs2, hs3, hs4⟩ R3 hR3
      by_cases hb2 : j < fr.length
      · cases hqi : q i with
        | false =>
          repeat' (first | refine wz1 ?_ | refine wz2 ?_ | refine wz3 ?_ | refine wz4 ?_ | refine wz5 ?_ | refine wz6 ?_ | simp -dsimp (maxSteps:=999999) (disch:=omega) only[go_sem,simprocAttr, *,nfaD, issD, isD] | ((first | refine wz8 (fun hh => ?_) (fun hh => ?_) | refine wz9 (fun hh => ?_) (fun hh => ?_) | refine wpB_cond (by simp -dsimp (maxSteps:=999999) (disch:=omega) only[go_sem,simprocAttr, *,nfaD, issD, isD]; exact rfl) (fun hh => ?_) (fun hh => ?_)) <;> (try replace hh := vqs hh) <;> (try (exfalso; first | exact hh | omega))))
          refine hR2 _ _ ⟨i + 1, q, b, by omega, by simp -dsimp (maxSteps:=999999) (disch:=omega) only[go_sem,simprocAttr, *,nfaD, issD, isD], gs, gs, gs, gs, hs1, hs2, hs3, fun h s hs hq => ?_⟩ ?_
          · by_cases he : s = i
            · subst he; rw [hqi] at hq; cases hq
            · exact (hs4 h).1 s (by omega) hq
          · simp -dsimp (maxSteps:=999999) (disch:=omega) only[go_sem,simprocAttr, *,natOf_int]
        | true =>
          obtain ⟨hfj1, hfj2⟩ := hfx fr[j] (List.getElem_mem hb2)
          obtain ⟨t, ht0⟩ : ∃ t : Nat, fr[j] = (t : Int) := ⟨fr[j].toNat, by omega⟩
          have htk : t < k := by omega
          have hx : fr[j]? = some (t : Int) := by rw [List.getElem?_eq_getElem hb2, ht0]
          have hmem : (t : Int) ∈ n.free.getD i [] := by rw [hf2]; exact List.mem_of_getElem? hx
          have htake : fr.take (j + 1) = fr.take j ++ [(t : Int)] := by rw [take_succ' hb2, ht0]
          clear hfj1 hfj2 ht0
          have g1 : ∀ s, s < k → q0 s = true → (if s = t then true else q s) = true := fun s h1 h2 => by rw [hs1 s h1 h2]; simp
          have g2 : ∀ s, s < k → (if s = t then true else q s) = true → Reach n (fun s => s < k ∧ p s = true) s := fun s h1 h2 => by
            by_cases he : s = t
            · subst he; exact .step (hs2 i hb hqi) hmem
            · rw [if_neg he] at h2; exact hs2 s h1 h2
          have same : q t = true → ∀ s, (if s = t then true else q s) = q s := fun h s => by
            by_cases he : s = t
            · subst he; rw [if_pos rfl, h]
            · rw [if_neg he]
          have g4 : b = false → q t = true → (∀ s, s < i → (if s = t then true else q s) = true → ∀ t' : Nat, (t' : Int) ∈ n.free.getD s [] → (if t' = t then true else q t') = true) ∧ ((if i = t then true else q i) = true → ∀ t' : Nat, (t' : Int) ∈ fr.take (j + 1) → (if t' = t then true else q t') = true) := fun h h2 => by
            obtain ⟨k1, k2⟩ := hs4 h
            refine ⟨fun s hs hq t' ht' => ?_, fun hq t' ht' => ?_⟩
            · rw [same h2] at hq ⊢; exact k1 s hs hq t' ht'
            · rw [same h2] at hq ⊢
              rw [htake, List.mem_append] at ht'
              rcases ht' with h3 | h3
              · exact k2 hq t' h3
              · have : t' = t := by simp at h3; omega
                subst this; exact h2
          clear hfx hq2 hs2 hs4 htake hmem hm hq1
          cases b with
          | true =>
            obtain ⟨s0, k1, k2, k3⟩ := hs3 rfl
            clear hs3
            repeat' (first | refine wz1 ?_ | refine wz2 ?_ | refine wz3 ?_ | refine wz4 ?_ | refine wz5 ?_ | refine wz6 ?_ | simp -dsimp (maxSteps:=999999) (disch:=omega) only[go_sem,simprocAttr, *,nfaD, issD, isD] | ((first | refine wz8 (fun hh => ?_) (fun hh => ?_) | refine wz9 (fun hh => ?_) (fun hh => ?_) | refine wpB_cond (by simp -dsimp (maxSteps:=999999) (disch:=omega) only[go_sem,simprocAttr, *,nfaD, issD, isD]; exact rfl) (fun hh => ?_) (fun hh => ?_)) <;> (try replace hh := vqs hh) <;> (try (exfalso; first | exact hh | omega))))
            refine hR3 _ _ ⟨j + 1, fun s => if s = t then true else q s, true, by omega, by simp -dsimp (maxSteps:=999999) (disch:=omega) only[go_sem,simprocAttr, *,nfaD, issD, isD], gs, gs, gs, gs, gs, g1, g2, fun _ => ⟨s0, k1, k2, ?_⟩, by simp⟩ ?_
            · show (if s0 = t then true else q s0) = true
              rw [k3]; simp
            · simp -dsimp (maxSteps:=999999) (disch:=omega) only[go_sem,simprocAttr, *,natOf_int]
          | false =>
            clear hs3
            cases hqt : q t with
            | true =>
              repeat' (first | refine wz1 ?_ | refine wz2 ?_ | refine wz3 ?_ | refine wz4 ?_ | refine wz5 ?_ | refine wz6 ?_ | simp -dsimp (maxSteps:=999999) (disch:=omega) only[go_sem,simprocAttr, *,nfaD, issD, isD] | ((first | refine wz8 (fun hh => ?_) (fun hh => ?_) | refine wz9 (fun hh => ?_) (fun hh => ?_) | refine wpB_cond (by simp -dsimp (maxSteps:=999999) (disch:=omega) only[go_sem,simprocAttr, *,nfaD, issD, isD]; exact rfl) (fun hh => ?_) (fun hh => ?_)) <;> (try replace hh := vqs hh) <;> (try (exfalso; first | exact hh | omega))))
              refine hR3 _ _ ⟨j + 1, fun s => if s = t then true else q s, false, by omega, by simp -dsimp (maxSteps:=999999) (disch:=omega) only[go_sem,simprocAttr, *,nfaD, issD, isD], gs, gs, gs, gs, gs, g1, g2, by simp, fun _ => g4 rfl hqt⟩ ?_
              simp -dsimp (maxSteps:=999999) (disch:=omega) only[go_sem,simprocAttr, *,natOf_int]
            | false =>
              have h0 : q0 t = false := by
                cases h : q0 t with
                | false => rfl
                | true => rw [hs1 t htk h] at hqt; cases hqt
              repeat' (first | refine wz1 ?_ | refine wz2 ?_ | refine wz3 ?_ | refine wz4 ?_ | refine wz5 ?_ | refine wz6 ?_ | simp -dsimp (maxSteps:=999999) (disch:=omega) only[go_sem,simprocAttr, *,nfaD, issD, isD] | ((first | refine wz8 (fun hh => ?_) (fun hh => ?_) | refine wz9 (fun hh => ?_) (fun hh => ?_) | refine wpB_cond (by simp -dsimp (maxSteps:=999999) (disch:=omega) only[go_sem,simprocAttr, *,nfaD, issD, isD]; exact rfl) (fun hh => ?_) (fun hh => ?_)) <;> (try replace hh := vqs hh) <;> (try (exfalso; first | exact hh | omega))))
              refine hR3 _ _ ⟨j + 1, fun s => if s = t then true else q s, true, by omega, by simp -dsimp (maxSteps:=999999) (disch:=omega) only[go_sem,simprocAttr, *,nfaD, issD, isD], gs, gs, gs, gs, gs, g1, g2, fun _ => ⟨t, htk, h0, by simp⟩, by simp⟩ ?_
              simp -dsimp (maxSteps:=999999) (disch:=omega) only[go_sem,simprocAttr, *,natOf_int]
      · repeat' (first | refine wz1 ?_ | refine wz2 ?_ | refine wz3 ?_ | refine wz4 ?_ | refine wz5 ?_ | refine wz6 ?_ | simp -dsimp (maxSteps:=999999) (disch:=omega) only[go_sem,simprocAttr, *,nfaD, issD, isD] | ((first | refine wz8 (fun hh => ?_) (fun hh => ?_) | refine wz9 (fun hh => ?_) (fun hh => ?_) | refine wpB_cond (by simp -dsimp (maxSteps:=999999) (disch:=omega) only[go_sem,simprocAttr, *,nfaD, issD, isD]; exact rfl) (fun hh => ?_) (fun hh => ?_)) <;> (try replace hh := vqs hh) <;> (try (exfalso; first | exact hh | omega))))
        refine hR2 _ _ ⟨i + 1, q, b, by omega, by simp -dsimp (maxSteps:=999999) (disch:=omega) only[go_sem,simprocAttr, *,nfaD, issD, isD], gs, gs, gs, gs, hs1, hs2, hs3, fun h s hs hq t ht => ?_⟩ ?_
        · by_cases he : s = i
          · subst he
            rw [hf2] at ht
            exact (hs4 h).2 hq t (by rw [List.take_of_length_le (by omega)]; exact ht)
          · exact (hs4 h).1 s (by omega) hq t ht
        · simp -dsimp (maxSteps:=999999) (disch:=omega) only[go_sem,simprocAttr, *,natOf_int]
    · repeat' (first | refine wz1 ?_ | refine wz2 ?_ | refine wz3 ?_ | refine wz4 ?_ | refine wz5 ?_ | refine wz6 ?_ | simp -dsimp (maxSteps:=999999) (disch:=omega) only[go_sem,simprocAttr, *,nfaD] | ((first | refine wz8 (fun hh => ?_) (fun hh => ?_) | refine wz9 (fun hh => ?_) (fun hh => ?_) | refine wpB_cond (by simp -dsimp (maxSteps:=999999) (disch:=omega) only[go_sem,simprocAttr, *,nfaD]; exact rfl) (fun hh => ?_) (fun hh => ?_)) <;> (try replace hh := vqs hh) <;> (try (exfalso; first | exact hh | omega))))
      refine hR _ _ _ ⟨q, b, rfl, by simp -dsimp (maxSteps:=999999) (disch:=omega) only[go_sem,simprocAttr, *,nfaD], gs, gs, gs, fun s h1 h2 => hs1 s h1 (hq1 s h1 h2), hs2, fun h s h1 h2 => hs4 h s (by omega) h2⟩ ?_
      rw [hm]
      cases b with
      | true => have := cntF_lt hs1 (hs3 rfl); simp; omega
      | false => have := cntF_le (k := k) hs1; simp; omega
end Go.Proofs.W
end
/- Machines with free steps: all states by free steps, depth first. -/
section
set_option maxHeartbeats 4000000
set_option linter.unusedVariables false
set_option linter.unusedSimpArgs false
namespace Go.Proofs.W
open Go Vm Go.Proofs.Zs7z

theorem cntF_one {q : Nat → Bool} {t : Nat} : ∀ {k : Nat}, t < k → q t = false → cntF (fun i => if i = t then true else q i) k + 1 = cntF q k
  | 0, h, _ => by omega
  | k + 1, h, h2 => by
    simp only [cntF]
    by_cases e : t = k
    · subst e
      have : ∀ m, m ≤ t → cntF (fun i => if i = t then true else q i) m = cntF q m := by
        intro m hm
        induction m with
        | zero => rfl
        | succ m ih => simp only [cntF, ih (by omega), show (m = t) = False from eq_false (by omega), if_false]
      have h3 := this t (Nat.le_refl _)
      simp only [h3, h2, if_true, Bool.false_eq_true, if_false]
    · have := cntF_one (k := k) (by omega) h2
      simp only [show (k = t) = False from eq_false (fun h => e h.symm), if_false]
      omega
/-- what the walk holds: the machine, who is there, who is told -/
def goA : List D := [.ptr 2 0 0, .ptr 3 0 0, .ptr 0 0 0, .ptr 4 0 0]
structure DS (n : Nfa) (k : Nat) (q : Nat → Bool) (out : List Int) (d : D) (H : Heap) : Prop where
  h0 : hget H 0 = .arr [nfaD n]
  h1 : hget H 1 = .arr (tabD k q)
  h2 : hget H 2 = .arr [.vec 1 0 k]
  h3 : hget H 3 = .arr [d]
  hv : VecAt 5 d H (out.map (.int .i64))
  h4 : hget H 4 = .arr [.fn 57 goA]
structure OutOk (k : Nat) (q : Nat → Bool) (out : List Int) : Prop where
  nodup : out.Nodup
  mem : ∀ x : Int, x ∈ out ↔ ∃ i, i < k ∧ q i = true ∧ x = i
  len : out.length + cntF q k = k
structure Went (n : Nfa) (k : Nat) (q q' : Nat → Bool) (s : Nat) : Prop where
  keep : ∀ x, x < k → q x = true → q' x = true
  from' : ∀ x, x < k → q' x = true → q x = true ∨ Reach n (· = s) x
  new : ∀ x, x < k → q' x = true → q x = false → ∀ t : Nat, (t : Int) ∈ n.free.getD x [] → q' t = true
def GoPost (n : Nfa) (k : Nat) (s : Int) (q : Nat → Bool) (H' : Heap) : Prop := ∃ q' out' d', DS n k q' out' d' H' ∧ OutOk k q' out' ∧ ((s < 0 ∨ k ≤ s) ∧ q' = q ∨ (0 ≤ s ∧ s < k ∧ q' s.toNat = true ∧ Went n k q q' s.toNat))
theorem go_ok (n : Nfa) (hn : rightN n = true) (hfl : ∀ l ∈ n.free, l.length ≤ 1000000) : ∀ (m : Nat) (s : Int) (q : Nat → Bool) (out : List Int) (d : D) (H : Heap), cntF q n.set.length ≤ m → DS n n.set.length q out d H → OutOk n.set.length q out →
    EvF Tryz.prog A 57 (.int .i64 s :: goA) H (fun _ H' => GoPost n n.set.length s q H') (fun _ _ => False) := by
  obtain ⟨hk, hk2, hf, ht, hr, hrow⟩ := right_row hn
  have hfree := fun i hi x hx => right_free hn (i := i) hi (x := x) hx
  generalize hkk : n.set.length = k at *
  intro m
  induction m using Nat.strongRecOn with
  | _ m ih =>
    rintro s q out d H hm ⟨h0, h1, h2, h3, hv, h4⟩ hout
    have hL := lt_of_hget h4
    obtain ⟨w1, w2, w3⟩ := hv.one
    have hol : out.length ≤ k := by have := hout.len; omega
    simp only [goA] at *
    refine evF_inB (n := 43) (rs := []) Tryz.func57 rfl rfl rfl rfl rfl rfl ?_
    by_cases c1 : 0 ≤ s
    · by_cases c2 : s < k
      · obtain ⟨t, rfl⟩ : ∃ t : Nat, s = t := ⟨s.toNat, by omega⟩
        have htk : t < k := by omega
        cases hqt : q t with
        | true =>
          repeat' (first | refine wz1 ?_ | refine wz2 ?_ | refine wz3 ?_ | refine wz4 ?_ | refine wz5 ?_ | refine wz6 ?_ | simp -dsimp (maxSteps:=999999) (disch:=omega) only[go_sem,simprocAttr, *] | ((first | refine wz8 (fun hh => ?_) (fun hh => ?_) | refine wz9 (fun hh => ?_) (fun hh => ?_) | refine wz7 (fun hh => ?_) (fun hh => ?_)) <;> (try replace hh := vqs hh) <;> (try (exfalso; first | exact hh | omega))))
          exact ⟨q, out, d, ⟨h0, h1, h2, h3, hv, h4⟩, hout, .inr ⟨c1, c2, by simpa using hqt, ⟨fun _ _ h => h, fun _ _ h => .inl h, fun x hx h g => by rw [h] at g; cases g⟩⟩⟩
        | false =>
          obtain ⟨d', H', ha, hv', hsm⟩ := app_int (hv.setLow (k := 1) (o := Ob.arr (tabD k fun i => if i = t then true else q i)) (by omega)) (t : Int) (by omega)
          obtain ⟨v1, v2, v3⟩ := hv'.one
          simp only [List.length_set] at ha
          have hL' : 5 ≤ H'.length := hv'.1
          have hs0 := hsm.2 0 (by omega)
          have hs1 := hsm.2 1 (by omega)
          have hs2 := hsm.2 2 (by omega)
          have hs3 := hsm.2 3 (by omega)
          have hs4 := hsm.2 4 (by omega)
          rw [hget_set_ne (by omega)] at hs0 hs2 hs3 hs4
          rw [hget_set_eq (by omega)] at hs1
          obtain ⟨fr, hf1, hf2⟩ := ex_at (l := n.free) (i := t) [] (by omega)
          have hfx := hfree t htk
          rw [hf2] at hfx
          have hfrl := hfl fr (List.mem_of_getElem? hf1)
          repeat' (first | refine wz1 ?_ | refine wz2 ?_ | refine wz3 ?_ | refine wz4 ?_ | refine wz5 ?_ | refine wz6 ?_ | simp -dsimp (maxSteps:=999999) (disch:=omega) only[go_sem,simprocAttr, *,nfaD, issD, isD] | ((first | refine wz8 (fun hh => ?_) (fun hh => ?_) | refine wz9 (fun hh => ?_) (fun hh => ?_) | refine wpB_cond (by simp -dsimp (maxSteps:=999999) (disch:=omega) only[go_sem,simprocAttr, *,nfaD, issD, isD]; exact rfl) (fun hh => ?_) (fun hh => ?_)) <;> (try replace hh := vqs hh) <;> (try (exfalso; first | exact hh | omega))))
          have ho1 : OutOk k (fun i => if i = t then true else q i) (out ++ [(t : Int)]) := by
            refine ⟨?_, fun x => ?_, ?_⟩
            · rw [List.nodup_append]
              refine ⟨hout.nodup, by simp, fun x hx y hy e => ?_⟩
              obtain ⟨i, i1, i2, i3⟩ := (hout.mem x).1 hx
              have : i = t := by simp at hy; omega
              subst this; rw [hqt] at i2; cases i2
            · rw [List.mem_append, hout.mem]
              constructor
              · rintro (⟨i, i1, i2, i3⟩ | hx)
                · refine ⟨i, i1, ?_, i3⟩
                  show (if i = t then true else q i) = true
                  rw [i2]; simp
                · exact ⟨t, htk, by simp, by simpa using hx⟩
              · rintro ⟨i, i1, i2, i3⟩
                by_cases e : i = t
                · subst e; exact .inr (by simp [i3])
                · simp only [e, if_false] at i2
                  exact .inl ⟨i, i1, i2, i3⟩
            · have := cntF_one htk hqt
              have h9 := hout.len
              simp only [List.length_append, List.length_cons, List.length_nil]
              omega
          refine wpB_loop (fun e H => ∃ (j : Nat) (qj : Nat → Bool) (outj : List Int) (dj : D), j ≤ fr.length ∧ DS n k qj outj dj H ∧ OutOk k qj outj ∧ e 4 = .ptr 4 0 0 ∧ e 33 = isD fr ∧ e 34 = .int .i64 fr.length ∧ e 35 = .int .i64 j ∧ (∀ x, x < k → (if x = t then true else q x) = true → qj x = true)
            ∧ (∀ x, x < k → qj x = true → (if x = t then true else q x) = true ∨ Reach n (· = t) x) ∧ (∀ x, x < k → qj x = true → (if x = t then true else q x) = false → ∀ y : Nat, (y : Int) ∈ n.free.getD x [] → qj y = true) ∧ ∀ y : Nat, (y : Int) ∈ fr.take j → qj y = true) (fun e H => fr.length - natOf (e 35)) ?_ ?_
          · refine ⟨0, _, out ++ [(t : Int)], d', by omega, ⟨by rw [hget_set_ne (by omega)]; rw [hs0, h0], by rw [hget_set_ne (by omega)]; exact hs1, by rw [hget_set_ne (by omega)]; rw [hs2, h2], by rw [hget_set_eq (by omega)], hv'.setLow (by omega), by rw [hget_set_ne (by omega)]; rw [hs4, h4]; rfl⟩, ho1, gs, by simp -dsimp (maxSteps:=999999) (disch:=omega) only[go_sem,simprocAttr, *,isD], gs, gs, fun _ _ h => h, fun _ _ h => .inl h, fun x _ h g => ?_, fun y hy => by simp at hy⟩
            have h' : (if x = t then true else q x) = true := h
            rw [h'] at g; cases g
          clear hs0 hs1 hs2 hs3 hs4 ha hv' hsm v1 v2 v3 h0 h1 h2 h3 h4 hv w1 w2 w3 ho1
          rintro e Hj ⟨j, qj, outj, dj, hj, hds, hoj, e4, e33, e34, e35, g1, g2, g3, g4⟩ R hR
          have h4 := hds.h4
          simp only [goA] at h4
          by_cases hb : j < fr.length
          · have hfj := hfx fr[j] (List.getElem_mem hb)
            obtain ⟨y, hy⟩ : ∃ y : Nat, fr[j] = (y : Int) := ⟨fr[j].toNat, by omega⟩
            have hcnt : cntF qj k < m := by
              have h5 := cntF_one htk hqt
              have h6 := cntF_le (k := k) g1
              omega
            have hcall := ih _ hcnt (y : Int) qj outj dj Hj (Nat.le_refl _) hds hoj
            repeat' (first | refine wz1 ?_ | refine wz2 ?_ | refine wz3 ?_ | refine wz4 ?_ | refine wz5 ?_ | refine wz6 ?_ | simp -dsimp (maxSteps:=999999) (disch:=omega) only[go_sem,simprocAttr, *,isD] | ((first | refine wz8 (fun hh => ?_) (fun hh => ?_) | refine wz9 (fun hh => ?_) (fun hh => ?_) | refine wpB_cond (by simp -dsimp (maxSteps:=999999) (disch:=omega) only[go_sem,simprocAttr, *,isD]; exact rfl) (fun hh => ?_) (fun hh => ?_)) <;> (try replace hh := vqs hh) <;> (try (exfalso; first | exact hh | omega))))
            refine evB_state bo57 rfl rfl hcall ?_ (fun _ _ h => h.elim)
            rintro _ H2 ⟨q2, out2, d2, hd2, ho2, hw⟩
            repeat' (first | refine wz1 ?_ | refine wz2 ?_ | refine wz3 ?_ | refine wz4 ?_ | refine wz5 ?_ | refine wz6 ?_ | simp -dsimp (maxSteps:=999999) (disch:=omega) only[go_sem,simprocAttr, *] | ((first | refine wz8 (fun hh => ?_) (fun hh => ?_) | refine wz9 (fun hh => ?_) (fun hh => ?_) | refine wz7 (fun hh => ?_) (fun hh => ?_)) <;> (try replace hh := vqs hh) <;> (try (exfalso; first | exact hh | omega))))
            rcases hw with ⟨h7, -⟩ | ⟨h7, h8, h9, hw⟩
            · omega
            · rw [Int.toNat_natCast] at h9 hw
              have hyk : y < k := by omega
              have hyf : (y : Int) ∈ n.free.getD t [] := by rw [hf2, ← hy]; exact List.getElem_mem hb
              have hfrom : ∀ x, Reach n (· = y) x → Reach n (· = t) x := by
                intro x hx
                induction hx with
                | base h => subst h; exact .step (.base rfl) hyf
                | step _ h ih => exact .step ih h
              refine hR _ _ ⟨j + 1, q2, out2, d2, by omega, hd2, ho2, gs, by simp -dsimp (maxSteps:=999999) (disch:=omega) only[go_sem,simprocAttr, *,isD], gs, gs, fun x hx h => hw.keep x hx (g1 x hx h), fun x hx h => ?_, fun x hx h g z hz => ?_, fun z hz => ?_⟩ ?_
              · rcases hw.from' x hx h with h | h
                · exact g2 x hx h
                · exact .inr (hfrom x h)
              · cases hq : qj x with
                | true =>
                  have hzk := hfree x hx z hz
                  exact hw.keep z (by omega) (g3 x hx hq g z hz)
                | false => exact hw.new x hx h hq z hz
              · rw [take_succ' hb, List.mem_append] at hz
                rcases hz with hz | hz
                · have hzk := hfx z (List.mem_of_mem_take hz)
                  exact hw.keep z (by omega) (g4 z hz)
                · have : z = y := by simp [hy] at hz; omega
                  subst this; exact h9
              · simp -dsimp (maxSteps:=999999) (disch:=omega) only[go_sem,simprocAttr, *,natOf_int]
          · repeat' (first | refine wz1 ?_ | refine wz2 ?_ | refine wz3 ?_ | refine wz4 ?_ | refine wz5 ?_ | refine wz6 ?_ | simp -dsimp (maxSteps:=999999) (disch:=omega) only[go_sem,simprocAttr, *] | ((first | refine wz8 (fun hh => ?_) (fun hh => ?_) | refine wz9 (fun hh => ?_) (fun hh => ?_) | refine wz7 (fun hh => ?_) (fun hh => ?_)) <;> (try replace hh := vqs hh) <;> (try (exfalso; first | exact hh | omega))))
            refine ⟨qj, outj, dj, hds, hoj, .inr ⟨c1, c2, by simpa using g1 t htk (by simp), ⟨fun x hx h => g1 x hx (by rw [h]; simp), fun x hx h => ?_, fun x hx h g z hz => ?_⟩⟩⟩
            · rcases g2 x hx h with h | h
              · by_cases e : x = t
                · subst e; exact .inr (.base (by simp))
                · rw [if_neg e] at h; exact .inl h
              · exact .inr (by simpa using h)
            · by_cases e : x = t
              · subst e
                rw [hf2] at hz
                exact g4 z (by rw [List.take_of_length_le (by omega)]; exact hz)
              · exact g3 x hx h (by rw [if_neg e]; exact g) z hz
      · repeat' (first | refine wz1 ?_ | refine wz2 ?_ | refine wz3 ?_ | refine wz4 ?_ | refine wz5 ?_ | refine wz6 ?_ | simp -dsimp (maxSteps:=999999) (disch:=omega) only[go_sem,simprocAttr, *] | ((first | refine wz8 (fun hh => ?_) (fun hh => ?_) | refine wz9 (fun hh => ?_) (fun hh => ?_) | refine wz7 (fun hh => ?_) (fun hh => ?_)) <;> (try replace hh := vqs hh) <;> (try (exfalso; first | exact hh | omega))))
        exact ⟨q, out, d, ⟨h0, h1, h2, h3, hv, h4⟩, hout, .inl ⟨.inr (by omega), rfl⟩⟩
    · repeat' (first | refine wz1 ?_ | refine wz2 ?_ | refine wz3 ?_ | refine wz4 ?_ | refine wz5 ?_ | refine wz6 ?_ | simp -dsimp (maxSteps:=999999) (disch:=omega) only[go_sem,simprocAttr, *] | ((first | refine wz8 (fun hh => ?_) (fun hh => ?_) | refine wz9 (fun hh => ?_) (fun hh => ?_) | refine wz7 (fun hh => ?_) (fun hh => ?_)) <;> (try replace hh := vqs hh) <;> (try (exfalso; first | exact hh | omega))))
      exact ⟨q, out, d, ⟨h0, h1, h2, h3, hv, h4⟩, hout, .inl ⟨.inl (by omega), rfl⟩⟩
end Go.Proofs.W
end
/- Sorted and compacted lists of numbers. -/
section
set_option maxHeartbeats 4000000
set_option linter.unusedVariables false
set_option linter.unusedSimpArgs false
namespace Go.Proofs.W
open Go Vm Go.Proofs.Zs7z

theorem strict_unique : ∀ {l l' : List Int}, l.Pairwise (· < ·) → l'.Pairwise (· < ·) → (∀ x, x ∈ l ↔ x ∈ l') → l = l'
  | [], [], _, _, _ => rfl
  | [], y :: t', _, _, h => by have := (h y).2 (by simp); cases this
  | x :: t, [], _, _, h => by have := (h x).1 (by simp); cases this
  | x :: t, y :: t', h1, h2, h => by
    have a1 := List.pairwise_cons.1 h1
    have a2 := List.pairwise_cons.1 h2
    have hx := (h x).1 (by simp)
    have hy := (h y).2 (by simp)
    have e : x = y := by
      rcases List.mem_cons.1 hx with e | hx
      · exact e
      · rcases List.mem_cons.1 hy with e | hy
        · exact e.symm
        · have := a1.1 y hy
          have := a2.1 x hx
          omega
    subst e
    refine congrArg (x :: ·) (strict_unique a1.2 a2.2 fun z => ⟨fun hz => ?_, fun hz => ?_⟩)
    · rcases List.mem_cons.1 ((h z).1 (List.mem_cons_of_mem _ hz)) with rfl | hz'
      · have := a1.1 _ hz; omega
      · exact hz'
    · rcases List.mem_cons.1 ((h z).2 (List.mem_cons_of_mem _ hz)) with rfl | hz'
      · have := a2.1 _ hz; omega
      · exact hz'
theorem listZ_strict (k : Nat) (p : Nat → Bool) : (listZ k p).Pairwise (· < ·) := by
  induction k with
  | zero => simp [listZ]
  | succ k ih =>
    rw [listZ_succ]
    cases hp : p k with
    | false => simpa using ih
    | true =>
      simp only [if_true, List.pairwise_append]
      refine ⟨ih, by simp, fun x hx y hy => ?_⟩
      obtain ⟨i, h1, h2, h3⟩ := mem_listZ.1 hx
      simp at hy; omega
theorem strict_of {l : List Int} (h : l.Pairwise (· ≤ ·)) (hn : l.Nodup) : l.Pairwise (· < ·) := by
  have := List.pairwise_and_iff.2 ⟨h, hn⟩
  exact this.imp fun h => by have := h.1; have := h.2; omega
theorem sort_listZ {k : Nat} {q : Nat → Bool} {out : List Int} (h : OutOk k q out) : sortZ out = listZ k q := by
  refine strict_unique (strict_of (sortZ_sorted out) ((sortZ_perm out).nodup_iff.2 h.nodup)) (listZ_strict k q) fun x => ?_
  rw [(sortZ_perm out).mem_iff, h.mem, mem_listZ]
theorem compact_spec (d : Array Int) (hd : ∀ i j, i ≤ j → j < d.size → d[i]! ≤ d[j]!) : ∀ m, m ≤ d.size → (Lib.compactUpTo d m).Pairwise (· < ·) ∧ ∀ x, x ∈ Lib.compactUpTo d m ↔ ∃ j, j < m ∧ d[j]! = x
  | 0, _ => by simp [Lib.compactUpTo]
  | m + 1, hm => by
    obtain ⟨h1, h2⟩ := compact_spec d hd m (by omega)
    rw [Lib.compactUpTo_succ]
    cases hk : Lib.keeps d m with
    | true =>
      simp only [if_true]
      have hlt : ∀ j, j < m → d[j]! < d[m]! := by
        intro j hj
        simp only [Lib.keeps, decide_eq_true_eq] at hk
        have := hd j (m - 1) (by omega) (by omega)
        have := hd (m - 1) m (by omega) (by omega)
        rcases hk with hk | hk
        · omega
        · omega
      refine ⟨List.pairwise_append.2 ⟨h1, by simp, fun x hx y hy => ?_⟩, fun x => ?_⟩
      · obtain ⟨j, j1, j2⟩ := (h2 x).1 hx
        have := hlt j j1
        simp at hy; omega
      · rw [List.mem_append, h2]
        constructor
        · rintro (⟨j, j1, j2⟩ | hx)
          · exact ⟨j, by omega, j2⟩
          · exact ⟨m, by omega, by simpa using Eq.symm (by simpa using hx)⟩
        · rintro ⟨j, j1, j2⟩
          by_cases e : j = m
          · subst e; exact .inr (by simp [← j2])
          · exact .inl ⟨j, by omega, j2⟩
    | false =>
      simp only [Bool.false_eq_true, if_false, List.append_nil]
      refine ⟨h1, fun x => ?_⟩
      rw [h2]
      simp only [Lib.keeps, decide_eq_false_iff_not, not_or, Decidable.not_not] at hk
      constructor
      · rintro ⟨j, j1, j2⟩; exact ⟨j, by omega, j2⟩
      · rintro ⟨j, j1, j2⟩
        by_cases e : j = m
        · subst e; exact ⟨j - 1, by omega, by rw [← hk.2]; exact j2⟩
        · exact ⟨j, by omega, j2⟩
theorem pw_get {l : List Int} (h : l.Pairwise (· ≤ ·)) (i j : Nat) (hij : i ≤ j) (hj : j < l.toArray.size) : l.toArray[i]! ≤ l.toArray[j]! := by
  simp at hj
  rw [getElem!_pos l.toArray i (by simp; omega), getElem!_pos l.toArray j (by simpa using hj)]
  simp
  by_cases e : i = j
  · subst e; exact Int.le_refl _
  · exact List.pairwise_iff_getElem.1 h i j (by omega) hj (by omega)
theorem compact_sorted (zs : List Int) : (Lib.compact (sortZ zs)).Pairwise (· < ·) ∧ ∀ x, x ∈ Lib.compact (sortZ zs) ↔ x ∈ zs := by
  have hs := sortZ_sorted zs
  obtain ⟨h1, h2⟩ := compact_spec (sortZ zs).toArray (pw_get hs) (sortZ zs).length (by simp)
  refine ⟨h1, fun x => ?_⟩
  rw [← (sortZ_perm zs).mem_iff]
  show x ∈ Lib.compactUpTo _ _ ↔ _
  rw [h2, List.mem_iff_getElem]
  constructor
  · rintro ⟨j, j1, j2⟩
    exact ⟨j, j1, by rw [← j2, getElem!_pos (sortZ zs).toArray j (by simpa using j1)]; simp⟩
  · rintro ⟨j, j1, j2⟩
    exact ⟨j, j1, by rw [← j2, getElem!_pos (sortZ zs).toArray j (by simpa using j1)]; simp⟩
theorem compact_len (zs : List Int) : (Lib.compact zs).length ≤ zs.length := by
  unfold Lib.compact Lib.compactUpTo
  have := List.length_filter_le (Lib.keeps zs.toArray) (List.range zs.length)
  simpa using this
theorem sortZ_len (zs : List Int) : (sortZ zs).length = zs.length := (sortZ_perm zs).length_eq
theorem sort_vec {m : Nat} {d : D} {H : Heap} {zs : List Int} (h : VecAt m d H (zs.map (.int .i64))) (hl : zs.length ≤ 1000000) : ∃ H', pSort [d] H = some (.ok (.tup []) H') ∧ VecAt m d H' ((sortZ zs).map (.int .i64)) ∧ Same m H H' := by
  obtain ⟨h0, h | ⟨h1, r, h2, h3, h4, h5⟩⟩ := h
  · obtain ⟨h1, rfl⟩ := h
    obtain rfl : zs = [] := by simpa using h1
    exact ⟨H, rfl, ⟨h0, .inl ⟨rfl, rfl⟩⟩, Same.refl⟩
  · have hz : zs ≠ [] := by simpa using h1
    subst h4
    refine ⟨H.set r (.arr ((sortZ zs).map (.int .i64))), ?_, ⟨by simpa using h0, .inr ⟨?_, r, h2, by simpa using h3, ?_, hget_set_eq h3⟩⟩, Same.set h2⟩
    · simp only [pSort, h5, intsD_map, Option.bind_some]
      rw [if_pos ⟨by simp, by omega, by cases zs with | nil => exact absurd rfl hz | cons a b => simp⟩]
    · have := sortZ_len zs
      intro e
      have e2 : sortZ zs = [] := by simpa using e
      rw [e2] at this
      cases zs with
      | nil => exact hz rfl
      | cons a b => simp at this
    · simp [sortZ_len]
theorem compact_vec {m : Nat} {d : D} {H : Heap} {zs : List Int} (h : VecAt m d H (zs.map (.int .i64))) (hl : zs.length ≤ 1000000) : ∃ d' H', pCompact [d] H = some (.ok d' H') ∧ outPure H' d' = some (isD (Lib.compact zs)) ∧ Same m H H' := by
  obtain ⟨h0, h | ⟨h1, r, h2, h3, h4, h5⟩⟩ := h
  · obtain ⟨h1, rfl⟩ := h
    obtain rfl : zs = [] := by simpa using h1
    exact ⟨_, H, rfl, rfl, Same.refl⟩
  · have hz : zs ≠ [] := by simpa using h1
    subst h4
    refine ⟨.vec r 0 (Lib.compact zs).length, H.set r (.arr ((compactZ zs).map (.int .i64))), ?_, ?_, Same.set h2⟩
    · simp only [pCompact, h5, intsD_map, Option.bind_some]
      rw [if_pos ⟨by simp, by omega, by cases zs with | nil => exact absurd rfl hz | cons a b => simp, compact_len zs⟩]
    · unfold outPure deepest
      rw [pur_vec, hget_set_eq h3]
      have hcl : (compactZ zs).length = zs.length := by have := compact_len zs; simp [compactZ]; omega
      have htk : (((compactZ zs).map (D.int .i64)).drop 0).take (Lib.compact zs).length = (Lib.compact zs).map (.int .i64) := by
        rw [List.drop_zero, ← List.map_take]
        congr 1
        simp [compactZ]
      have hle := compact_len zs
      simp only [Nat.zero_add, List.length_map, hcl, if_pos hle, htk]
      rw [purL_strip (strip_ints _)]
      rfl
end Go.Proofs.W
end
/- Runs that are closed. -/
section
set_option maxHeartbeats 4000000
set_option linter.unusedVariables false
set_option linter.unusedSimpArgs false
namespace Go.Proofs.W
open Go Vm Go.Proofs.Zs7z

theorem alive_ok : PureF Tryz.prog A 4 [] (.bool true) := okTrue_run alive_run
end Go.Proofs.W
end
/- The least rule of some states, read of a maker of machines. -/
section
set_option maxHeartbeats 4000000
set_option linter.unusedVariables false
set_option linter.unusedSimpArgs false
namespace Go.Proofs.W
open Go Vm Go.Proofs.Zs7z

/-- nothing is taken as it is -/
def A1 : Ann := { mode := fun _ => .pure, prim := fun _ => none }
theorem prim1 [Base] : PrimOk Tryz.prog A1 := ⟨fun f k h => (by cases h), fun f g h => (by cases h), fun f p h => (by cases h)⟩
theorem ruleL_cons {rs xs : List D} {x : D} {out r : Int} (h : ruleL rs (x :: xs) out = some r) : ∃ s q : Int, x = .int .i64 s ∧ 0 ≤ s ∧ rs[s.toNat]? = some (.int .i64 q) ∧ ruleL rs xs (if q ≥ 0 ∧ (out < 0 ∨ q < out) then q else out) = some r := by
  unfold ruleL at h
  split at h
  · rename_i e1; cases e1
  · rename_i e1
    cases e1
    split at h
    · split at h
      · rename_i q hq
        exact ⟨_, q, rfl, by assumption, hq, h⟩
      · cases h
    · cases h
  · cases h
theorem rule_ok (r : Nat) (f g : Bool) (xs rs : List D) (c0 c1 c2 c4 c5 c6 c7 : D) (H : Heap) (hg : hget H r = .arr [.agg [c0, c1, c2, .sl g rs, c4, c5, c6, c7]]) (x : Int) (hx : ruleL rs xs (-1) = some x) (hl : xs.length ≤ 1000000) :
    EvF Tryz.prog A1 38 [.ptr r 0 0, .sl f xs] H (fun d H' => d = .int .i64 x ∧ H' = H) (fun _ _ => False) := by
  refine evF_inB (n := 37) (rs := [.tmp 4]) Tryz.func38 rfl rfl rfl rfl rfl rfl ?_
  replace hx : Hid (ruleL rs (xs.drop 0) (-1) = some x) := hx
  repeat' (first | refine wz1 ?_ | refine wz2 ?_ | refine wz3 ?_ | refine wz4 ?_ | refine wz5 ?_ | refine wz6 ?_ | simp -dsimp (maxSteps:=999999) (disch:=omega) only[go_sem,simprocAttr, *] | ((first | refine wz8 (fun hh => ?_) (fun hh => ?_) | refine wz9 (fun hh => ?_) (fun hh => ?_) | refine wz7 (fun hh => ?_) (fun hh => ?_)) <;> (try replace hh := vqs hh) <;> (try (exfalso; first | exact hh | omega))))
  refine wpB_loop (fun e Hx => ∃ (j : Nat) (o : Int), j ≤ xs.length ∧ Hx = H ∧ e 0 = .ptr r 0 0 ∧ e 5 = .int .i64 o ∧ e 9 = .sl f xs ∧ e 10 = .int .i64 xs.length ∧ e 11 = .int .i64 j ∧ ruleL rs (xs.drop j) o = some x) (fun e H => xs.length - natOf (e 11)) ?_ ?_
  · exact ⟨0, -1, by omega, rfl, gs, gs, gs, gs, gs, hx⟩
  clear hx
  rintro e Hx ⟨j, o, hj, rfl, e0, e5, e9, e10, e11, hx⟩ R hR
  by_cases hb : j < xs.length
  case neg =>
    rw [List.drop_eq_nil_of_le (by omega)] at hx
    have : o = x := by simpa [ruleL] using hx
    subst this
    clear hx
    repeat' (first | refine wz1 ?_ | refine wz2 ?_ | refine wz3 ?_ | refine wz4 ?_ | refine wz5 ?_ | refine wz6 ?_ | simp -dsimp (maxSteps:=999999) (disch:=omega) only[go_sem,simprocAttr, *] | ((first | refine wz8 (fun hh => ?_) (fun hh => ?_) | refine wz9 (fun hh => ?_) (fun hh => ?_) | refine wz7 (fun hh => ?_) (fun hh => ?_)) <;> (try replace hh := vqs hh) <;> (try (exfalso; first | exact hh | omega))))
  have hd : xs.drop j = xs[j] :: xs.drop (j + 1) := List.drop_eq_getElem_cons hb
  rw [hd] at hx
  obtain ⟨s, q, hs, hs0, hq, hx⟩ := ruleL_cons hx
  have hcell : xs[j]? = some (.int .i64 s) := by rw [List.getElem?_eq_getElem hb, hs]
  have hsl : s < rs.length := by
    have := (List.getElem?_eq_some_iff.1 hq).1
    omega
  clear hd hs
  replace hx : Hid (ruleL rs (xs.drop (j + 1)) (if q ≥ 0 ∧ (o < 0 ∨ q < o) then q else o) = some x) := hx
  repeat' (first | refine wz1 ?_ | refine wz2 ?_ | refine wz3 ?_ | refine wz4 ?_ | refine wz5 ?_ | refine wz6 ?_ | simp -dsimp (maxSteps:=999999) (disch:=omega) only[go_sem,simprocAttr, *] | ((first | refine wz8 (fun hh => ?_) (fun hh => ?_) | refine wz9 (fun hh => ?_) (fun hh => ?_) | refine wz7 (fun hh => ?_) (fun hh => ?_)) <;> (try replace hh := vqs hh) <;> (try (exfalso; first | exact hh | omega))))
  all_goals first
    | (refine hR _ _ ⟨j + 1, q, by omega, rfl, gs, gs, gs, gs, gs, ?_⟩ ?_
       · have h := hx; unfold Hid at h
         rwa [if_pos (by omega)] at h
       · simp -dsimp (maxSteps:=999999) (disch:=omega) only[go_sem,simprocAttr, *,natOf_int])
    | (refine hR _ _ ⟨j + 1, o, by omega, rfl, gs, gs, gs, gs, gs, ?_⟩ ?_
       · have h := hx; unfold Hid at h
         rwa [if_neg (by omega)] at h
       · simp -dsimp (maxSteps:=999999) (disch:=omega) only[go_sem,simprocAttr, *,natOf_int])
theorem ruleG_inv {args : List D} {obs : List Ob} {d : D} (h : ruleG args obs = some d) : ∃ r f g xs rs c0 c1 c2 c4 c5 c6 c7 x, args = [.ptr r 0 0, .sl f xs] ∧ obs = [.arr [.agg [c0, c1, c2, .sl g rs, c4, c5, c6, c7]]] ∧ ruleL rs xs (-1) = some x ∧ d = .int .i64 x ∧ xs.length ≤ 1000000 := by
  unfold ruleG at h
  split at h
  · split at h
    case isFalse => cases h
    rename_i hl
    cases hx : ruleL _ _ (-1) with
    | none => rw [hx] at h; cases h
    | some x =>
      rw [hx] at h
      cases h
      exact ⟨_, _, _, _, _, _, _, _, _, _, _, _, x, rfl, rfl, hx, rfl, hl⟩
  · cases h

theorem mixed : Tryz.prog.follows .mixedOrders = true := by kernel_rfl
theorem rule_calls [Base] {args : List D} {H : Heap} {d : D} (h : ruleG args ((args.flatMap objsD).map (hget H)) = some d) {ρ : Rho} {im : Im} {w : World} {vs : List Value} (hR : Rel ρ im H w) (hvs : RepA ρ H.length im vs args) : Calls Tryz.prog 38 ⟨vs⟩ w (OutR ρ im H w (.ok d H)) := by
  obtain ⟨r, f, g, xs, rs, c0, c1, c2, c4, c5, c6, c7, x, rfl, hob, hx, rfl, hl⟩ := ruleG_inv h
  have hg : hget H r = .arr [.agg [c0, c1, c2, .sl g rs, c4, c5, c6, c7]] := by simpa [objsD] using hob
  exact calls_of_ev mixed prim1 bo38 (rule_ok r f g xs rs c0 c1 c2 c4 c5 c6 c7 H hg x hx hl) hR hvs
end Go.Proofs.W
end
/-
  DERIVED: THE SHELF's CONTRACTS AT THIS DUMP, IN PLAIN WORDS (tools/lay-plain.mjs out of 'TryzShelf.lean', which tools/lay-shelf.mjs wrote): THE SAME DECLARATIONS UNDER THE SAME NAMES: 'import', 'namespace', 'open', 'def', 'theorem' AND NOTHING ELSE: no command of the shelf's: FOR A HAND-IN. Each laying: the table of numbers ('.._ren') and one theorem, a field a fact of the dump's own or the kernel's comparison; each contract: ONE APPLICATION.
-/
section
namespace Go.Proofs
open Go.Shelf
def Tryz.lays146_ren : Go.Shelf.Ren := ⟨fun | 146 => 28 | 221 => 47 | 268 => 61 | 138 => 27 | 143 => 46 | 195 => 44 | 197 => 74 | 218 => 45 | 219 => 60 | 260 => 93 | 217 => 70 | 225 => 71 | 224 => 72 | 267 => 73 | 266 => 91 | 314 => 92 | n => n, fun | 9 => 9 | 31 => 74 | 3 => 3 | 4 => 4 | 0 => 0 | 105 => 125 | 21 => 21 | 5 => 5 | 46 => 88 | 119 => 150 | 139 => 153 | 138 => 152 | 146 => 142 | 51 => 139 | n => n, fun | 1 => 0 | 3 => 1 | 4 => 2 | n => n⟩
theorem Tryz.lays146 : Go.Proofs.Lays.n146 Tryz.prog Tryz.lays146_ren := {
  mixed := by kernel_rfl
  f138 := Tryz.func27.trans (congrArg some (by kernel_rfl))
  f143 := Tryz.func46.trans (congrArg some (by kernel_rfl))
  f146 := Tryz.func28.trans (congrArg some (by kernel_rfl))
  f195 := Tryz.func44.trans (congrArg some (by kernel_rfl))
  f197 := Tryz.func74.trans (congrArg some (by kernel_rfl))
  f217 := Tryz.func70.trans (congrArg some (by kernel_rfl))
  f218 := Tryz.func45.trans (congrArg some (by kernel_rfl))
  f219 := Tryz.func60.trans (congrArg some (by kernel_rfl))
  f221 := Tryz.func47.trans (congrArg some (by kernel_rfl))
  f224 := Tryz.func72.trans (congrArg some (by kernel_rfl))
  f225 := Tryz.func71.trans (congrArg some (by kernel_rfl))
  f260 := Tryz.func93.trans (congrArg some (by kernel_rfl))
  f266 := Tryz.func91.trans (congrArg some (by kernel_rfl))
  f267 := Tryz.func73.trans (congrArg some (by kernel_rfl))
  f268 := Tryz.func61.trans (congrArg some (by kernel_rfl))
  f314 := Tryz.func92.trans (congrArg some (by kernel_rfl))
  t0 := Tryz.underlying0
  a0 := Tryz.isAgg0
  z0 := Tryz.sizeOf0
  v0 := Tryz.zeroValue0
  t3 := Tryz.underlying3
  a3 := Tryz.isAgg3
  z3 := Tryz.sizeOf3
  v3 := Tryz.zeroValue3
  t4 := Tryz.underlying4
  a4 := Tryz.isAgg4
  z4 := Tryz.sizeOf4
  v4 := Tryz.zeroValue4
  t5 := Tryz.underlying5
  a5 := Tryz.isAgg5
  z5 := Tryz.sizeOf5
  v5 := Tryz.zeroValue5
  t9 := Tryz.underlying9
  a9 := Tryz.isAgg9
  z9 := Tryz.sizeOf9
  v9 := Tryz.zeroValue9
  t21 := Tryz.underlying21
  a21 := Tryz.isAgg21
  z21 := Tryz.sizeOf21
  v21 := Tryz.zeroValue21
  t31 := Tryz.underlying74
  a31 := Tryz.isAgg74
  z31 := Tryz.sizeOf74
  v31 := Tryz.zeroValue74
  t46 := Tryz.underlying88
  a46 := Tryz.isAgg88
  z46 := Tryz.sizeOf88
  v46 := Tryz.zeroValue88
  t51 := Tryz.underlying139
  a51 := Tryz.isAgg139
  z51 := Tryz.sizeOf139
  v51 := Tryz.zeroValue139
  t105 := Tryz.underlying125
  a105 := Tryz.isAgg125
  z105 := Tryz.sizeOf125
  v105 := Tryz.zeroValue125
  t119 := Tryz.underlying150
  a119 := Tryz.isAgg150
  z119 := Tryz.sizeOf150
  t138 := Tryz.underlying152
  a138 := Tryz.isAgg152
  z138 := Tryz.sizeOf152
  v138 := Tryz.zeroValue152
  t139 := Tryz.underlying153
  a139 := Tryz.isAgg153
  z139 := Tryz.sizeOf153
  v139 := Tryz.zeroValue153
  t146 := Tryz.underlying142
  a146 := Tryz.isAgg142
  z146 := Tryz.sizeOf142
  v146 := Tryz.zeroValue142
  g1 := by kernel_rfl
  g3 := by kernel_rfl
  g4 := by kernel_rfl }
open Go.RowKit Go.Lib in
/-- strings.Split. (LAID: no walk: one application.) -/
theorem Tryz.strings_Split (s sep : ByteArray) (m : Int) (w : World) (hs : s.size < 4294967281) (hm : w.cell? ⟨0, 0, none⟩ = some (.int .i64 m)) (h1 : 1 ≤ sep.size) :
    Calls Tryz.prog 28 #[.string s, .string sep] w fun e w' =>
      e = .returned (.slice (some ⟨w.heap.size, 0, none⟩) (Lib.countB s sep + 1) (Lib.countB s sep + 1)) ∧ w' = w.alloc (.cells ((Lib.splitB sep 0 (Lib.countB s sep) s).map Value.string).toArray 9) := Any.strings_Split Tryz.lays146 (by kernel_rfl) s sep m w hs hm h1
def Tryz.lays138_ren : Go.Shelf.Ren := ⟨fun | 138 => 27 | 195 => 44 | 218 => 45 | 143 => 46 | 219 => 60 | 217 => 70 | 225 => 71 | 224 => 72 | 267 => 73 | 266 => 91 | 314 => 92 | n => n, fun | 9 => 9 | 3 => 3 | 4 => 4 | 5 => 5 | 0 => 0 | 46 => 88 | 146 => 142 | 51 => 139 | n => n, fun | 1 => 0 | n => n⟩
theorem Tryz.lays138 : Go.Proofs.Lays.n138 Tryz.prog Tryz.lays138_ren := {
  mixed := by kernel_rfl
  f138 := Tryz.func27.trans (congrArg some (by kernel_rfl))
  f143 := Tryz.func46.trans (congrArg some (by kernel_rfl))
  f195 := Tryz.func44.trans (congrArg some (by kernel_rfl))
  f217 := Tryz.func70.trans (congrArg some (by kernel_rfl))
  f218 := Tryz.func45.trans (congrArg some (by kernel_rfl))
  f219 := Tryz.func60.trans (congrArg some (by kernel_rfl))
  f224 := Tryz.func72.trans (congrArg some (by kernel_rfl))
  f225 := Tryz.func71.trans (congrArg some (by kernel_rfl))
  f266 := Tryz.func91.trans (congrArg some (by kernel_rfl))
  f267 := Tryz.func73.trans (congrArg some (by kernel_rfl))
  f314 := Tryz.func92.trans (congrArg some (by kernel_rfl))
  t0 := Tryz.underlying0
  a0 := Tryz.isAgg0
  z0 := Tryz.sizeOf0
  v0 := Tryz.zeroValue0
  t3 := Tryz.underlying3
  a3 := Tryz.isAgg3
  z3 := Tryz.sizeOf3
  v3 := Tryz.zeroValue3
  t4 := Tryz.underlying4
  a4 := Tryz.isAgg4
  z4 := Tryz.sizeOf4
  v4 := Tryz.zeroValue4
  t5 := Tryz.underlying5
  a5 := Tryz.isAgg5
  z5 := Tryz.sizeOf5
  v5 := Tryz.zeroValue5
  t9 := Tryz.underlying9
  a9 := Tryz.isAgg9
  z9 := Tryz.sizeOf9
  v9 := Tryz.zeroValue9
  t46 := Tryz.underlying88
  a46 := Tryz.isAgg88
  z46 := Tryz.sizeOf88
  v46 := Tryz.zeroValue88
  t51 := Tryz.underlying139
  a51 := Tryz.isAgg139
  z51 := Tryz.sizeOf139
  v51 := Tryz.zeroValue139
  t146 := Tryz.underlying142
  a146 := Tryz.isAgg142
  z146 := Tryz.sizeOf142
  v146 := Tryz.zeroValue142
  g1 := by kernel_rfl }
open Go.RowKit Go.Lib in
/-- strings.Count at whatever sep that is not empty: the two roads under one statement. (LAID: no walk: one application.) -/
theorem Tryz.strings_Count_any (s sep : ByteArray) (m : Int) (w : World) (hs : s.size < 4294967281) (hm : w.cell? ⟨0, 0, none⟩ = some (.int .i64 m)) (h1 : 1 ≤ sep.size) :
    Calls Tryz.prog 27 #[.string s, .string sep] w fun e w' => e = .returned (.int .i64 (Lib.countB s sep)) ∧ w' = w := Any.strings_Count_any Tryz.lays138 s sep m w hs hm h1
def Tryz.lays145_ren : Go.Shelf.Ren := ⟨fun | 145 => 48 | 220 => 62 | 219 => 60 | 217 => 70 | 225 => 71 | 224 => 72 | 267 => 73 | 266 => 91 | 314 => 92 | n => n, fun | 9 => 9 | 4 => 4 | 59 => 97 | 3 => 3 | 5 => 5 | 46 => 88 | 146 => 142 | 51 => 139 | n => n, fun | 1 => 0 | n => n⟩
theorem Tryz.lays145 : Go.Proofs.Lays.n145 Tryz.prog Tryz.lays145_ren := {
  mixed := by kernel_rfl
  f145 := Tryz.func48.trans (congrArg some (by kernel_rfl))
  f217 := Tryz.func70.trans (congrArg some (by kernel_rfl))
  f219 := Tryz.func60.trans (congrArg some (by kernel_rfl))
  f220 := Tryz.func62.trans (congrArg some (by kernel_rfl))
  f224 := Tryz.func72.trans (congrArg some (by kernel_rfl))
  f225 := Tryz.func71.trans (congrArg some (by kernel_rfl))
  f266 := Tryz.func91.trans (congrArg some (by kernel_rfl))
  f267 := Tryz.func73.trans (congrArg some (by kernel_rfl))
  f314 := Tryz.func92.trans (congrArg some (by kernel_rfl))
  t3 := Tryz.underlying3
  a3 := Tryz.isAgg3
  z3 := Tryz.sizeOf3
  v3 := Tryz.zeroValue3
  t4 := Tryz.underlying4
  a4 := Tryz.isAgg4
  z4 := Tryz.sizeOf4
  v4 := Tryz.zeroValue4
  t5 := Tryz.underlying5
  a5 := Tryz.isAgg5
  z5 := Tryz.sizeOf5
  v5 := Tryz.zeroValue5
  t9 := Tryz.underlying9
  a9 := Tryz.isAgg9
  z9 := Tryz.sizeOf9
  v9 := Tryz.zeroValue9
  t46 := Tryz.underlying88
  a46 := Tryz.isAgg88
  z46 := Tryz.sizeOf88
  v46 := Tryz.zeroValue88
  t51 := Tryz.underlying139
  a51 := Tryz.isAgg139
  z51 := Tryz.sizeOf139
  v51 := Tryz.zeroValue139
  t59 := Tryz.underlying97
  a59 := Tryz.isAgg97
  z59 := Tryz.sizeOf97
  v59 := Tryz.zeroValue97
  t146 := Tryz.underlying142
  a146 := Tryz.isAgg142
  z146 := Tryz.sizeOf142
  v146 := Tryz.zeroValue142
  g1 := by kernel_rfl }
open Go.RowKit Go.Lib in
/-- strings.Cut: "Cut slices s around the first instance of sep, returning the text before and after sep. The found result reports whether sep appears in s. If sep does not appear in s, cut returns s, "", false.": IT RETURNS 'Lib.cut s sep'; the world is as it was but for the count of draws. (LAID: no walk: one application.) -/
theorem Tryz.strings_Cut (s sep : ByteArray) (m : Int) (w : World) (hs : s.size < 4294967281) (hm : w.cell? ⟨0, 0, none⟩ = some (.int .i64 m)) :
    Calls Tryz.prog 48 #[.string s, .string sep] w fun e w' => e = .returned (.tuple #[.string ⟨(Lib.cut s.data.toList sep.data.toList).1.toArray⟩, .string ⟨(Lib.cut s.data.toList sep.data.toList).2.1.toArray⟩, .bool (Lib.cut s.data.toList sep.data.toList).2.2]) ∧ ∃ n, w' = w.drewN n := Any.strings_Cut Tryz.lays145 s sep m w hs hm
def Tryz.lays104_ren : Go.Shelf.Ren := ⟨fun | 104 => 49 | 211 => 63 | 207 => 75 | n => n, fun | 9 => 9 | 4 => 4 | 24 => 99 | 3 => 3 | n => n, fun | n => n⟩
theorem Tryz.lays104 : Go.Proofs.Lays.n104 Tryz.prog Tryz.lays104_ren := {
  mixed := by kernel_rfl
  f104 := Tryz.func49.trans (congrArg some (by kernel_rfl))
  f207 := Tryz.func75.trans (congrArg some (by kernel_rfl))
  f211 := Tryz.func63.trans (congrArg some (by kernel_rfl))
  t3 := Tryz.underlying3
  a3 := Tryz.isAgg3
  z3 := Tryz.sizeOf3
  v3 := Tryz.zeroValue3
  t4 := Tryz.underlying4
  a4 := Tryz.isAgg4
  z4 := Tryz.sizeOf4
  v4 := Tryz.zeroValue4
  t9 := Tryz.underlying9
  a9 := Tryz.isAgg9
  z9 := Tryz.sizeOf9
  v9 := Tryz.zeroValue9
  t24 := Tryz.underlying99
  a24 := Tryz.isAgg99
  z24 := Tryz.sizeOf99
  v24 := Tryz.zeroValue99 }
open Go.RowKit in
/-- strings.CutSuffix: "CutSuffix returns s without the provided ending suffix string and reports whether it found the suffix. If s doesn't end with suffix, CutSuffix returns s, false. If suffix is the empty string, CutSuffix returns s, true.": IT RETURNS '(Lib.trimSuffix s p, Lib.hasSuffix s p)'; the world is as it was. (LAID: no walk: one application.) -/
theorem Tryz.strings_CutSuffix (s p : ByteArray) (w : World) (hs : s.size ≤ 9223372036854775807) :
    Calls Tryz.prog 49 #[.string s, .string p] w fun e w' => e = .returned (.tuple #[.string ⟨(Lib.trimSuffix s.data.toList p.data.toList).toArray⟩, .bool (Lib.hasSuffix s.data.toList p.data.toList)]) ∧ w' = w := Any.strings_CutSuffix Tryz.lays104 s p w hs
def Tryz.lays137_ren : Go.Shelf.Ren := ⟨fun | 137 => 108 | 217 => 70 | 266 => 91 | n => n, fun | 9 => 9 | 5 => 5 | 3 => 3 | n => n, fun | n => n⟩
theorem Tryz.lays137 : Go.Proofs.Lays.n137 Tryz.prog Tryz.lays137_ren := {
  mixed := by kernel_rfl
  f137 := Tryz.func108.trans (congrArg some (by kernel_rfl))
  f217 := Tryz.func70.trans (congrArg some (by kernel_rfl))
  f266 := Tryz.func91.trans (congrArg some (by kernel_rfl))
  t3 := Tryz.underlying3
  a3 := Tryz.isAgg3
  z3 := Tryz.sizeOf3
  v3 := Tryz.zeroValue3
  t5 := Tryz.underlying5
  a5 := Tryz.isAgg5
  z5 := Tryz.sizeOf5
  v5 := Tryz.zeroValue5
  t9 := Tryz.underlying9
  a9 := Tryz.isAgg9
  z9 := Tryz.sizeOf9
  v9 := Tryz.zeroValue9 }
open Go.RowKit in
/-- strings.IndexByte: "IndexByte returns the index of the first instance of c in s, or -1 if c is not present in s.": IT RETURNS 'Lib.indexByte s c'; the world is as it was. (LAID: no walk: one application.) -/
theorem Tryz.strings_IndexByte (s : ByteArray) (c : Int) (w : World) :
    Calls Tryz.prog 108 #[.string s, .int .u8 c] w fun e w' => e = .returned (.int .i64 (Lib.indexByte s.data.toList c.toNat.toUInt8)) ∧ w' = w := Any.strings_IndexByte Tryz.lays137 s c w
def Tryz.lays189_ren : Go.Shelf.Ren := ⟨fun | 189 => 58 | 125 => 69 | 257 => 68 | 128 => 89 | 129 => 90 | 294 => 80 | 295 => 81 | 296 => 82 | 297 => 83 | 298 => 84 | 299 => 85 | 216 => 86 | 300 => 87 | 301 => 88 | 328 => 96 | 329 => 97 | 330 => 98 | 331 => 99 | 332 => 100 | 215 => 101 | 343 => 104 | n => n, fun | 28 => 26 | 3 => 3 | 46 => 88 | 0 => 0 | 51 => 139 | 53 => 141 | 4 => 4 | 183 => 132 | 182 => 131 | 131 => 89 | 5 => 5 | 9 => 9 | 218 => 145 | 222 => 106 | 228 => 155 | 229 => 43 | n => n, fun | n => n⟩
theorem Tryz.lays189 : Go.Proofs.Lays.n189 Tryz.prog Tryz.lays189_ren := {
  mixed := by kernel_rfl
  f125 := Tryz.func69.trans (congrArg some (by kernel_rfl))
  f128 := Tryz.func89.trans (congrArg some (by kernel_rfl))
  f129 := Tryz.func90.trans (congrArg some (by kernel_rfl))
  f189 := Tryz.func58.trans (congrArg some (by kernel_rfl))
  f215 := Tryz.func101.trans (congrArg some (by kernel_rfl))
  f216 := Tryz.func86.trans (congrArg some (by kernel_rfl))
  f257 := Tryz.func68.trans (congrArg some (by kernel_rfl))
  f294 := Tryz.func80.trans (congrArg some (by kernel_rfl))
  f295 := Tryz.func81.trans (congrArg some (by kernel_rfl))
  f296 := Tryz.func82.trans (congrArg some (by kernel_rfl))
  f297 := Tryz.func83.trans (congrArg some (by kernel_rfl))
  f298 := Tryz.func84.trans (congrArg some (by kernel_rfl))
  f299 := Tryz.func85.trans (congrArg some (by kernel_rfl))
  f300 := Tryz.func87.trans (congrArg some (by kernel_rfl))
  f301 := Tryz.func88.trans (congrArg some (by kernel_rfl))
  f328 := Tryz.func96.trans (congrArg some (by kernel_rfl))
  f329 := Tryz.func97.trans (congrArg some (by kernel_rfl))
  f330 := Tryz.func98.trans (congrArg some (by kernel_rfl))
  f331 := Tryz.func99.trans (congrArg some (by kernel_rfl))
  f332 := Tryz.func100.trans (congrArg some (by kernel_rfl))
  f343 := Tryz.func104.trans (congrArg some (by kernel_rfl))
  t0 := Tryz.underlying0
  a0 := Tryz.isAgg0
  z0 := Tryz.sizeOf0
  v0 := Tryz.zeroValue0
  t3 := Tryz.underlying3
  a3 := Tryz.isAgg3
  z3 := Tryz.sizeOf3
  v3 := Tryz.zeroValue3
  t4 := Tryz.underlying4
  a4 := Tryz.isAgg4
  z4 := Tryz.sizeOf4
  v4 := Tryz.zeroValue4
  t5 := Tryz.underlying5
  a5 := Tryz.isAgg5
  z5 := Tryz.sizeOf5
  v5 := Tryz.zeroValue5
  t9 := Tryz.underlying9
  a9 := Tryz.isAgg9
  z9 := Tryz.sizeOf9
  v9 := Tryz.zeroValue9
  t28 := Tryz.underlying26
  a28 := Tryz.isAgg26
  z28 := Tryz.sizeOf26
  v28 := Tryz.zeroValue26
  t46 := Tryz.underlying88
  a46 := Tryz.isAgg88
  z46 := Tryz.sizeOf88
  v46 := Tryz.zeroValue88
  t51 := Tryz.underlying139
  a51 := Tryz.isAgg139
  z51 := Tryz.sizeOf139
  v51 := Tryz.zeroValue139
  t53 := Tryz.underlying141
  a53 := Tryz.isAgg141
  z53 := Tryz.sizeOf141
  v53 := Tryz.zeroValue141
  t131 := Tryz.underlying89
  a131 := Tryz.isAgg89
  z131 := Tryz.sizeOf89
  v131 := Tryz.zeroValue89
  t182 := Tryz.underlying131
  a182 := Tryz.isAgg131
  z182 := Tryz.sizeOf131
  v182 := Tryz.zeroValue131
  t183 := Tryz.underlying132
  a183 := Tryz.isAgg132
  z183 := Tryz.sizeOf132
  v183 := Tryz.zeroValue132
  t218 := Tryz.underlying145
  a218 := Tryz.isAgg145
  z218 := Tryz.sizeOf145
  v218 := Tryz.zeroValue145
  t222 := Tryz.underlying106
  a222 := Tryz.isAgg106
  z222 := Tryz.sizeOf106
  v222 := Tryz.zeroValue106
  t228 := Tryz.underlying155
  a228 := Tryz.isAgg155
  z228 := Tryz.sizeOf155
  v228 := Tryz.zeroValue155
  t229 := Tryz.underlying43
  a229 := Tryz.isAgg43
  z229 := Tryz.sizeOf43
  v229 := Tryz.zeroValue43 }
open Go.Sort Go.RowKit in
theorem Tryz.slices_Sort_int (blk off cap : Nat) (zs : List Int) (w : World) (hH : Holds (Value.int .i64) w blk off zs.toArray) (hblk : blk < w.heap.size) (hsz : zs.length < 4611686018427387904) :
    Calls Tryz.prog 58 #[.slice (some ⟨blk, off, none⟩) zs.length cap] w fun e w' =>
      e = .returned (.tuple #[]) ∧ ∃ n os, w' = grow (putRow (Value.int .i64) (Sort.ahead w n) blk off (zs.mergeSort fun x y => decide (x ≤ y)).toArray) os := Any.slices_Sort_int Tryz.lays189 blk off cap zs w hH hblk hsz
open Go.RowKit Go.Sort in
/-- .. and plain. (LAID: no walk: one application.) -/
theorem Tryz.slices_Sort_int_none (p : Option Addr) (cap : Nat) (w : World) :
    Calls Tryz.prog 58 #[.slice p 0 cap] w fun e w' => e = .returned (.tuple #[]) ∧ w' = w := Any.slices_Sort_int_none Tryz.lays189 p cap w
def Tryz.laysNm220_ren : Go.Shelf.Ren := ⟨fun | 20 => 59 | n => n, fun | 22 => 26 | 3 => 3 | 4 => 4 | 0 => 0 | n => n, fun | n => n⟩
theorem Tryz.laysNm220 : Go.Proofs.Lays2.n20 Tryz.prog Tryz.laysNm220_ren := {
  mixed := by kernel_rfl
  f20 := Tryz.func59.trans (congrArg some (by kernel_rfl))
  t0 := Tryz.underlying0
  a0 := Tryz.isAgg0
  z0 := Tryz.sizeOf0
  v0 := Tryz.zeroValue0
  t3 := Tryz.underlying3
  a3 := Tryz.isAgg3
  z3 := Tryz.sizeOf3
  v3 := Tryz.zeroValue3
  t4 := Tryz.underlying4
  a4 := Tryz.isAgg4
  z4 := Tryz.sizeOf4
  v4 := Tryz.zeroValue4
  t22 := Tryz.underlying26
  a22 := Tryz.isAgg26
  z22 := Tryz.sizeOf26
  v22 := Tryz.zeroValue26
  i3 := by kernel_rfl }
open Go.RowKit Go.Lib Go.Sort in
/-- slices.Compact at []int: "Compact replaces consecutive runs of equal elements with a single copy. This is like the uniq command found on Unix. Compact modifies the contents of the slice s and returns the modified slice, which may have a smaller length. Compact zeroes the elements between the new length and the original length. The result preserves the nilness of s.": IT RETURNS THE SLICE CUT TO 'Lib.compact zs'; ITS CELLS HOLD 'Lib.compact zs', THEN ZERO VALUES up to the old length; all else is as it was, but for the count of draws. IN THE WORDS OF slices.Sort's CONTRACT ('Holds', 'putRow'): so the everyday 'slices.Sort(xs); xs = slices.Compact(xs)' goes from the one contract to the other. It asks 'zs.length ≤ cap' (every slice's: the reslicing 's[:k]' looks at it). Length 0, nil: '.._empty'. (LAID: no walk: one application.) -/
theorem Tryz.slices_Compact_int (blk off cap : Nat) (zs : List Int) (w : World) (hH : Holds (Value.int .i64) w blk off zs.toArray) (hsz : zs.length ≤ 9223372036854775807) (hcap : zs.length ≤ cap) :
    Calls Tryz.prog 59 #[.slice (some ⟨blk, off, none⟩) zs.length cap] w fun e w' => e = .returned (.slice (some ⟨blk, off, none⟩) (Lib.compact zs).length cap) ∧ ∃ q, w' = putRow (Value.int .i64) (Sort.ahead w q) blk off (Lib.compact zs ++ List.replicate (zs.length - (Lib.compact zs).length) 0).toArray := Any.slices_Compact_int Tryz.laysNm220 blk off cap zs w hH hsz hcap
open Go.RowKit Go.Lib Go.Sort in
/-- The same at a slice of length 0, a nil one too: it comes back as it is. (LAID: no walk: one application.) -/
theorem Tryz.slices_Compact_int_empty (a : Option Addr) (cap : Nat) (w : World) :
    Calls Tryz.prog 59 #[.slice a 0 cap] w fun e w' => e = .returned (.slice a 0 cap) ∧ w' = w := Any.slices_Compact_int_empty Tryz.laysNm220 a cap w
end Go.Proofs
end
