/- Texts that stand behind this claim, one after the other. -/
import Derived.Test.YtiaonafhegbhjaaGreatDoorM6
set_option maxHeartbeats 4000000
set_option linter.unusedVariables false
set_option linter.unusedSimpArgs false
section
namespace Go.Proofs.W
open Go Vm Go.Proofs.Zso
def rightR (r : Rx) : Bool:=decide (depth r <= 12) && decide (nodesR r <= 100) && shapesR r
theorem jka (r : Rx) (hr : okR r) : PureF Tryz.prog A 60 [rxD r] (.bool (shape1 r.k r.s r.kids.length)):=by
  obtain ⟨k,s,l⟩:=r
  obtain ⟨hk0,hk1,hs0,hs1,hlen,hok⟩:=hr
  simp only [Rx.k,Rx.s,Rx.kids]
  refine jaj (n:=51) (rs:=[.tmp 2]) Tryz.func60 rfl rfl rfl rfl rfl rfl ?_
  by_cases h0 : k = 0
  · subst h0
    by_cases hs : s = 0 <;> by_cases hl : l.length = 0
    · repeat' (first | apply wz1|apply wz2|apply wz3|apply wz4|apply wz5|apply wz6 | simp -dsimp (maxSteps:=999999) (disch:=omega) only[go_sem,simprocAttr, *])
      refine wz7 (fun hb=>?_) (fun hb=>?_) <;> try simp -dsimp (maxSteps:=999999) (disch:=omega) only[go_sem,simprocAttr,decide_eq_true_eq,decide_eq_false_iff_not,Bool.not_eq_true,Bool.not_eq_false,Int.not_lt,Int.not_le] at hb
      repeat' (first | apply wz1|apply wz2|apply wz3|apply wz4|apply wz5|apply wz6 | simp -dsimp (maxSteps:=999999) (disch:=omega) only[go_sem,simprocAttr, *])
      try simp -dsimp (maxSteps:=999999) (disch:=omega) only[go_sem,simprocAttr, *,shape1,jaq,jan,jas,jar]
    · repeat' (first | apply wz1|apply wz2|apply wz3|apply wz4|apply wz5|apply wz6 | simp -dsimp (maxSteps:=999999) (disch:=omega) only[go_sem,simprocAttr, *])
      refine wz7 (fun hb=>?_) (fun hb=>?_) <;> try simp -dsimp (maxSteps:=999999) (disch:=omega) only[go_sem,simprocAttr,decide_eq_true_eq,decide_eq_false_iff_not,Bool.not_eq_true,Bool.not_eq_false,Int.not_lt,Int.not_le] at hb
      repeat' (first | apply wz1|apply wz2|apply wz3|apply wz4|apply wz5|apply wz6 | simp -dsimp (maxSteps:=999999) (disch:=omega) only[go_sem,simprocAttr, *])
      try simp -dsimp (maxSteps:=999999) (disch:=omega) only[go_sem,simprocAttr, *,shape1,jaq,jan,jas,jar]
    · repeat' (first | apply wz1|apply wz2|apply wz3|apply wz4|apply wz5|apply wz6 | simp -dsimp (maxSteps:=999999) (disch:=omega) only[go_sem,simprocAttr, *])
      refine wz7 (fun hb=>?_) (fun hb=>?_) <;> try simp -dsimp (maxSteps:=999999) (disch:=omega) only[go_sem,simprocAttr,decide_eq_true_eq,decide_eq_false_iff_not,Bool.not_eq_true,Bool.not_eq_false,Int.not_lt,Int.not_le] at hb
      repeat' (first | apply wz1|apply wz2|apply wz3|apply wz4|apply wz5|apply wz6 | simp -dsimp (maxSteps:=999999) (disch:=omega) only[go_sem,simprocAttr, *])
      try simp -dsimp (maxSteps:=999999) (disch:=omega) only[go_sem,simprocAttr, *,shape1,jaq,jan,jas,jar]
    · repeat' (first | apply wz1|apply wz2|apply wz3|apply wz4|apply wz5|apply wz6 | simp -dsimp (maxSteps:=999999) (disch:=omega) only[go_sem,simprocAttr, *])
      refine wz7 (fun hb=>?_) (fun hb=>?_) <;> try simp -dsimp (maxSteps:=999999) (disch:=omega) only[go_sem,simprocAttr,decide_eq_true_eq,decide_eq_false_iff_not,Bool.not_eq_true,Bool.not_eq_false,Int.not_lt,Int.not_le] at hb
      repeat' (first | apply wz1|apply wz2|apply wz3|apply wz4|apply wz5|apply wz6 | simp -dsimp (maxSteps:=999999) (disch:=omega) only[go_sem,simprocAttr, *])
      try simp -dsimp (maxSteps:=999999) (disch:=omega) only[go_sem,simprocAttr, *,shape1,jaq,jan,jas,jar]
  by_cases h1 : k = 1
  · subst h1
    by_cases hs : s = 0 <;> by_cases hl : l.length = 0
    · repeat' (first | apply wz1|apply wz2|apply wz3|apply wz4|apply wz5|apply wz6 | simp -dsimp (maxSteps:=999999) (disch:=omega) only[go_sem,simprocAttr, *])
      refine wz7 (fun hb=>?_) (fun hb=>?_) <;> try simp -dsimp (maxSteps:=999999) (disch:=omega) only[go_sem,simprocAttr,decide_eq_true_eq,decide_eq_false_iff_not,Bool.not_eq_true,Bool.not_eq_false,Int.not_lt,Int.not_le] at hb
      repeat' (first | apply wz1|apply wz2|apply wz3|apply wz4|apply wz5|apply wz6 | simp -dsimp (maxSteps:=999999) (disch:=omega) only[go_sem,simprocAttr, *])
      refine wz7 (fun hb=>?_) (fun hb=>?_) <;> try simp -dsimp (maxSteps:=999999) (disch:=omega) only[go_sem,simprocAttr,decide_eq_true_eq,decide_eq_false_iff_not,Bool.not_eq_true,Bool.not_eq_false,Int.not_lt,Int.not_le] at hb
      repeat' (first | apply wz1|apply wz2|apply wz3|apply wz4|apply wz5|apply wz6 | simp -dsimp (maxSteps:=999999) (disch:=omega) only[go_sem,simprocAttr, *])
      try simp -dsimp (maxSteps:=999999) (disch:=omega) only[go_sem,simprocAttr, *,shape1,jaq,jan,jas,jar]
    · repeat' (first | apply wz1|apply wz2|apply wz3|apply wz4|apply wz5|apply wz6 | simp -dsimp (maxSteps:=999999) (disch:=omega) only[go_sem,simprocAttr, *])
      refine wz7 (fun hb=>?_) (fun hb=>?_) <;> try simp -dsimp (maxSteps:=999999) (disch:=omega) only[go_sem,simprocAttr,decide_eq_true_eq,decide_eq_false_iff_not,Bool.not_eq_true,Bool.not_eq_false,Int.not_lt,Int.not_le] at hb
      repeat' (first | apply wz1|apply wz2|apply wz3|apply wz4|apply wz5|apply wz6 | simp -dsimp (maxSteps:=999999) (disch:=omega) only[go_sem,simprocAttr, *])
      refine wz7 (fun hb=>?_) (fun hb=>?_) <;> try simp -dsimp (maxSteps:=999999) (disch:=omega) only[go_sem,simprocAttr,decide_eq_true_eq,decide_eq_false_iff_not,Bool.not_eq_true,Bool.not_eq_false,Int.not_lt,Int.not_le] at hb
      repeat' (first | apply wz1|apply wz2|apply wz3|apply wz4|apply wz5|apply wz6 | simp -dsimp (maxSteps:=999999) (disch:=omega) only[go_sem,simprocAttr, *])
      try simp -dsimp (maxSteps:=999999) (disch:=omega) only[go_sem,simprocAttr, *,shape1,jaq,jan,jas,jar]
    · repeat' (first | apply wz1|apply wz2|apply wz3|apply wz4|apply wz5|apply wz6 | simp -dsimp (maxSteps:=999999) (disch:=omega) only[go_sem,simprocAttr, *])
      refine wz7 (fun hb=>?_) (fun hb=>?_) <;> try simp -dsimp (maxSteps:=999999) (disch:=omega) only[go_sem,simprocAttr,decide_eq_true_eq,decide_eq_false_iff_not,Bool.not_eq_true,Bool.not_eq_false,Int.not_lt,Int.not_le] at hb
      repeat' (first | apply wz1|apply wz2|apply wz3|apply wz4|apply wz5|apply wz6 | simp -dsimp (maxSteps:=999999) (disch:=omega) only[go_sem,simprocAttr, *])
      refine wz7 (fun hb=>?_) (fun hb=>?_) <;> try simp -dsimp (maxSteps:=999999) (disch:=omega) only[go_sem,simprocAttr,decide_eq_true_eq,decide_eq_false_iff_not,Bool.not_eq_true,Bool.not_eq_false,Int.not_lt,Int.not_le] at hb
      repeat' (first | apply wz1|apply wz2|apply wz3|apply wz4|apply wz5|apply wz6 | simp -dsimp (maxSteps:=999999) (disch:=omega) only[go_sem,simprocAttr, *])
      try simp -dsimp (maxSteps:=999999) (disch:=omega) only[go_sem,simprocAttr, *,shape1,jaq,jan,jas,jar]
    · repeat' (first | apply wz1|apply wz2|apply wz3|apply wz4|apply wz5|apply wz6 | simp -dsimp (maxSteps:=999999) (disch:=omega) only[go_sem,simprocAttr, *])
      refine wz7 (fun hb=>?_) (fun hb=>?_) <;> try simp -dsimp (maxSteps:=999999) (disch:=omega) only[go_sem,simprocAttr,decide_eq_true_eq,decide_eq_false_iff_not,Bool.not_eq_true,Bool.not_eq_false,Int.not_lt,Int.not_le] at hb
      repeat' (first | apply wz1|apply wz2|apply wz3|apply wz4|apply wz5|apply wz6 | simp -dsimp (maxSteps:=999999) (disch:=omega) only[go_sem,simprocAttr, *])
      refine wz7 (fun hb=>?_) (fun hb=>?_) <;> try simp -dsimp (maxSteps:=999999) (disch:=omega) only[go_sem,simprocAttr,decide_eq_true_eq,decide_eq_false_iff_not,Bool.not_eq_true,Bool.not_eq_false,Int.not_lt,Int.not_le] at hb
      repeat' (first | apply wz1|apply wz2|apply wz3|apply wz4|apply wz5|apply wz6 | simp -dsimp (maxSteps:=999999) (disch:=omega) only[go_sem,simprocAttr, *])
      try simp -dsimp (maxSteps:=999999) (disch:=omega) only[go_sem,simprocAttr, *,shape1,jaq,jan,jas,jar]
  by_cases h2 : k = 2
  · subst h2
    by_cases hs : s = 0 <;> by_cases hl : 0 < l.length
    · repeat' (first | apply wz1|apply wz2|apply wz3|apply wz4|apply wz5|apply wz6 | simp -dsimp (maxSteps:=999999) (disch:=omega) only[go_sem,simprocAttr, *])
      refine wz7 (fun hb=>?_) (fun hb=>?_) <;> try simp -dsimp (maxSteps:=999999) (disch:=omega) only[go_sem,simprocAttr,decide_eq_true_eq,decide_eq_false_iff_not,Bool.not_eq_true,Bool.not_eq_false,Int.not_lt,Int.not_le] at hb
      repeat' (first | apply wz1|apply wz2|apply wz3|apply wz4|apply wz5|apply wz6 | simp -dsimp (maxSteps:=999999) (disch:=omega) only[go_sem,simprocAttr, *])
      refine wz7 (fun hb=>?_) (fun hb=>?_) <;> try simp -dsimp (maxSteps:=999999) (disch:=omega) only[go_sem,simprocAttr,decide_eq_true_eq,decide_eq_false_iff_not,Bool.not_eq_true,Bool.not_eq_false,Int.not_lt,Int.not_le] at hb
      repeat' (first | apply wz1|apply wz2|apply wz3|apply wz4|apply wz5|apply wz6 | simp -dsimp (maxSteps:=999999) (disch:=omega) only[go_sem,simprocAttr, *])
      refine wz7 (fun hb=>?_) (fun hb=>?_) <;> try simp -dsimp (maxSteps:=999999) (disch:=omega) only[go_sem,simprocAttr,decide_eq_true_eq,decide_eq_false_iff_not,Bool.not_eq_true,Bool.not_eq_false,Int.not_lt,Int.not_le] at hb
      repeat' (first | apply wz1|apply wz2|apply wz3|apply wz4|apply wz5|apply wz6 | simp -dsimp (maxSteps:=999999) (disch:=omega) only[go_sem,simprocAttr, *])
      refine wz7 (fun hb=>?_) (fun hb=>?_) <;> try simp -dsimp (maxSteps:=999999) (disch:=omega) only[go_sem,simprocAttr,decide_eq_true_eq,decide_eq_false_iff_not,Bool.not_eq_true,Bool.not_eq_false,Int.not_lt,Int.not_le] at hb
      repeat' (first | apply wz1|apply wz2|apply wz3|apply wz4|apply wz5|apply wz6 | simp -dsimp (maxSteps:=999999) (disch:=omega) only[go_sem,simprocAttr, *])
      try simp -dsimp (maxSteps:=999999) (disch:=omega) only[go_sem,simprocAttr, *,shape1,jaq,jan,jas,jar]
    · repeat' (first | apply wz1|apply wz2|apply wz3|apply wz4|apply wz5|apply wz6 | simp -dsimp (maxSteps:=999999) (disch:=omega) only[go_sem,simprocAttr, *])
      refine wz7 (fun hb=>?_) (fun hb=>?_) <;> try simp -dsimp (maxSteps:=999999) (disch:=omega) only[go_sem,simprocAttr,decide_eq_true_eq,decide_eq_false_iff_not,Bool.not_eq_true,Bool.not_eq_false,Int.not_lt,Int.not_le] at hb
      repeat' (first | apply wz1|apply wz2|apply wz3|apply wz4|apply wz5|apply wz6 | simp -dsimp (maxSteps:=999999) (disch:=omega) only[go_sem,simprocAttr, *])
      refine wz7 (fun hb=>?_) (fun hb=>?_) <;> try simp -dsimp (maxSteps:=999999) (disch:=omega) only[go_sem,simprocAttr,decide_eq_true_eq,decide_eq_false_iff_not,Bool.not_eq_true,Bool.not_eq_false,Int.not_lt,Int.not_le] at hb
      repeat' (first | apply wz1|apply wz2|apply wz3|apply wz4|apply wz5|apply wz6 | simp -dsimp (maxSteps:=999999) (disch:=omega) only[go_sem,simprocAttr, *])
      refine wz7 (fun hb=>?_) (fun hb=>?_) <;> try simp -dsimp (maxSteps:=999999) (disch:=omega) only[go_sem,simprocAttr,decide_eq_true_eq,decide_eq_false_iff_not,Bool.not_eq_true,Bool.not_eq_false,Int.not_lt,Int.not_le] at hb
      repeat' (first | apply wz1|apply wz2|apply wz3|apply wz4|apply wz5|apply wz6 | simp -dsimp (maxSteps:=999999) (disch:=omega) only[go_sem,simprocAttr, *])
      refine wz7 (fun hb=>?_) (fun hb=>?_) <;> try simp -dsimp (maxSteps:=999999) (disch:=omega) only[go_sem,simprocAttr,decide_eq_true_eq,decide_eq_false_iff_not,Bool.not_eq_true,Bool.not_eq_false,Int.not_lt,Int.not_le] at hb
      repeat' (first | apply wz1|apply wz2|apply wz3|apply wz4|apply wz5|apply wz6 | simp -dsimp (maxSteps:=999999) (disch:=omega) only[go_sem,simprocAttr, *])
      try simp -dsimp (maxSteps:=999999) (disch:=omega) only[go_sem,simprocAttr, *,shape1,jaq,jan,jas,jar]
    · repeat' (first | apply wz1|apply wz2|apply wz3|apply wz4|apply wz5|apply wz6 | simp -dsimp (maxSteps:=999999) (disch:=omega) only[go_sem,simprocAttr, *])
      refine wz7 (fun hb=>?_) (fun hb=>?_) <;> try simp -dsimp (maxSteps:=999999) (disch:=omega) only[go_sem,simprocAttr,decide_eq_true_eq,decide_eq_false_iff_not,Bool.not_eq_true,Bool.not_eq_false,Int.not_lt,Int.not_le] at hb
      repeat' (first | apply wz1|apply wz2|apply wz3|apply wz4|apply wz5|apply wz6 | simp -dsimp (maxSteps:=999999) (disch:=omega) only[go_sem,simprocAttr, *])
      refine wz7 (fun hb=>?_) (fun hb=>?_) <;> try simp -dsimp (maxSteps:=999999) (disch:=omega) only[go_sem,simprocAttr,decide_eq_true_eq,decide_eq_false_iff_not,Bool.not_eq_true,Bool.not_eq_false,Int.not_lt,Int.not_le] at hb
      repeat' (first | apply wz1|apply wz2|apply wz3|apply wz4|apply wz5|apply wz6 | simp -dsimp (maxSteps:=999999) (disch:=omega) only[go_sem,simprocAttr, *])
      refine wz7 (fun hb=>?_) (fun hb=>?_) <;> try simp -dsimp (maxSteps:=999999) (disch:=omega) only[go_sem,simprocAttr,decide_eq_true_eq,decide_eq_false_iff_not,Bool.not_eq_true,Bool.not_eq_false,Int.not_lt,Int.not_le] at hb
      repeat' (first | apply wz1|apply wz2|apply wz3|apply wz4|apply wz5|apply wz6 | simp -dsimp (maxSteps:=999999) (disch:=omega) only[go_sem,simprocAttr, *])
      refine wz7 (fun hb=>?_) (fun hb=>?_) <;> try simp -dsimp (maxSteps:=999999) (disch:=omega) only[go_sem,simprocAttr,decide_eq_true_eq,decide_eq_false_iff_not,Bool.not_eq_true,Bool.not_eq_false,Int.not_lt,Int.not_le] at hb
      repeat' (first | apply wz1|apply wz2|apply wz3|apply wz4|apply wz5|apply wz6 | simp -dsimp (maxSteps:=999999) (disch:=omega) only[go_sem,simprocAttr, *])
      try simp -dsimp (maxSteps:=999999) (disch:=omega) only[go_sem,simprocAttr, *,shape1,jaq,jan,jas,jar]
    · repeat' (first | apply wz1|apply wz2|apply wz3|apply wz4|apply wz5|apply wz6 | simp -dsimp (maxSteps:=999999) (disch:=omega) only[go_sem,simprocAttr, *])
      refine wz7 (fun hb=>?_) (fun hb=>?_) <;> try simp -dsimp (maxSteps:=999999) (disch:=omega) only[go_sem,simprocAttr,decide_eq_true_eq,decide_eq_false_iff_not,Bool.not_eq_true,Bool.not_eq_false,Int.not_lt,Int.not_le] at hb
      repeat' (first | apply wz1|apply wz2|apply wz3|apply wz4|apply wz5|apply wz6 | simp -dsimp (maxSteps:=999999) (disch:=omega) only[go_sem,simprocAttr, *])
      refine wz7 (fun hb=>?_) (fun hb=>?_) <;> try simp -dsimp (maxSteps:=999999) (disch:=omega) only[go_sem,simprocAttr,decide_eq_true_eq,decide_eq_false_iff_not,Bool.not_eq_true,Bool.not_eq_false,Int.not_lt,Int.not_le] at hb
      repeat' (first | apply wz1|apply wz2|apply wz3|apply wz4|apply wz5|apply wz6 | simp -dsimp (maxSteps:=999999) (disch:=omega) only[go_sem,simprocAttr, *])
      refine wz7 (fun hb=>?_) (fun hb=>?_) <;> try simp -dsimp (maxSteps:=999999) (disch:=omega) only[go_sem,simprocAttr,decide_eq_true_eq,decide_eq_false_iff_not,Bool.not_eq_true,Bool.not_eq_false,Int.not_lt,Int.not_le] at hb
      repeat' (first | apply wz1|apply wz2|apply wz3|apply wz4|apply wz5|apply wz6 | simp -dsimp (maxSteps:=999999) (disch:=omega) only[go_sem,simprocAttr, *])
      refine wz7 (fun hb=>?_) (fun hb=>?_) <;> try simp -dsimp (maxSteps:=999999) (disch:=omega) only[go_sem,simprocAttr,decide_eq_true_eq,decide_eq_false_iff_not,Bool.not_eq_true,Bool.not_eq_false,Int.not_lt,Int.not_le] at hb
      repeat' (first | apply wz1|apply wz2|apply wz3|apply wz4|apply wz5|apply wz6 | simp -dsimp (maxSteps:=999999) (disch:=omega) only[go_sem,simprocAttr, *])
      try simp -dsimp (maxSteps:=999999) (disch:=omega) only[go_sem,simprocAttr, *,shape1,jaq,jan,jas,jar]
  by_cases h3 : k = 3
  · subst h3
    by_cases hs : s = 0 <;> by_cases hl : 0 < l.length
    · repeat' (first | apply wz1|apply wz2|apply wz3|apply wz4|apply wz5|apply wz6 | simp -dsimp (maxSteps:=999999) (disch:=omega) only[go_sem,simprocAttr, *])
      refine wz7 (fun hb=>?_) (fun hb=>?_) <;> try simp -dsimp (maxSteps:=999999) (disch:=omega) only[go_sem,simprocAttr,decide_eq_true_eq,decide_eq_false_iff_not,Bool.not_eq_true,Bool.not_eq_false,Int.not_lt,Int.not_le] at hb
      repeat' (first | apply wz1|apply wz2|apply wz3|apply wz4|apply wz5|apply wz6 | simp -dsimp (maxSteps:=999999) (disch:=omega) only[go_sem,simprocAttr, *])
      refine wz7 (fun hb=>?_) (fun hb=>?_) <;> try simp -dsimp (maxSteps:=999999) (disch:=omega) only[go_sem,simprocAttr,decide_eq_true_eq,decide_eq_false_iff_not,Bool.not_eq_true,Bool.not_eq_false,Int.not_lt,Int.not_le] at hb
      repeat' (first | apply wz1|apply wz2|apply wz3|apply wz4|apply wz5|apply wz6 | simp -dsimp (maxSteps:=999999) (disch:=omega) only[go_sem,simprocAttr, *])
      refine wz7 (fun hb=>?_) (fun hb=>?_) <;> try simp -dsimp (maxSteps:=999999) (disch:=omega) only[go_sem,simprocAttr,decide_eq_true_eq,decide_eq_false_iff_not,Bool.not_eq_true,Bool.not_eq_false,Int.not_lt,Int.not_le] at hb
      repeat' (first | apply wz1|apply wz2|apply wz3|apply wz4|apply wz5|apply wz6 | simp -dsimp (maxSteps:=999999) (disch:=omega) only[go_sem,simprocAttr, *])
      refine wz7 (fun hb=>?_) (fun hb=>?_) <;> try simp -dsimp (maxSteps:=999999) (disch:=omega) only[go_sem,simprocAttr,decide_eq_true_eq,decide_eq_false_iff_not,Bool.not_eq_true,Bool.not_eq_false,Int.not_lt,Int.not_le] at hb
      repeat' (first | apply wz1|apply wz2|apply wz3|apply wz4|apply wz5|apply wz6 | simp -dsimp (maxSteps:=999999) (disch:=omega) only[go_sem,simprocAttr, *])
      try simp -dsimp (maxSteps:=999999) (disch:=omega) only[go_sem,simprocAttr, *,shape1,jaq,jan,jas,jar]
    · repeat' (first | apply wz1|apply wz2|apply wz3|apply wz4|apply wz5|apply wz6 | simp -dsimp (maxSteps:=999999) (disch:=omega) only[go_sem,simprocAttr, *])
      refine wz7 (fun hb=>?_) (fun hb=>?_) <;> try simp -dsimp (maxSteps:=999999) (disch:=omega) only[go_sem,simprocAttr,decide_eq_true_eq,decide_eq_false_iff_not,Bool.not_eq_true,Bool.not_eq_false,Int.not_lt,Int.not_le] at hb
      repeat' (first | apply wz1|apply wz2|apply wz3|apply wz4|apply wz5|apply wz6 | simp -dsimp (maxSteps:=999999) (disch:=omega) only[go_sem,simprocAttr, *])
      refine wz7 (fun hb=>?_) (fun hb=>?_) <;> try simp -dsimp (maxSteps:=999999) (disch:=omega) only[go_sem,simprocAttr,decide_eq_true_eq,decide_eq_false_iff_not,Bool.not_eq_true,Bool.not_eq_false,Int.not_lt,Int.not_le] at hb
      repeat' (first | apply wz1|apply wz2|apply wz3|apply wz4|apply wz5|apply wz6 | simp -dsimp (maxSteps:=999999) (disch:=omega) only[go_sem,simprocAttr, *])
      refine wz7 (fun hb=>?_) (fun hb=>?_) <;> try simp -dsimp (maxSteps:=999999) (disch:=omega) only[go_sem,simprocAttr,decide_eq_true_eq,decide_eq_false_iff_not,Bool.not_eq_true,Bool.not_eq_false,Int.not_lt,Int.not_le] at hb
      repeat' (first | apply wz1|apply wz2|apply wz3|apply wz4|apply wz5|apply wz6 | simp -dsimp (maxSteps:=999999) (disch:=omega) only[go_sem,simprocAttr, *])
      refine wz7 (fun hb=>?_) (fun hb=>?_) <;> try simp -dsimp (maxSteps:=999999) (disch:=omega) only[go_sem,simprocAttr,decide_eq_true_eq,decide_eq_false_iff_not,Bool.not_eq_true,Bool.not_eq_false,Int.not_lt,Int.not_le] at hb
      repeat' (first | apply wz1|apply wz2|apply wz3|apply wz4|apply wz5|apply wz6 | simp -dsimp (maxSteps:=999999) (disch:=omega) only[go_sem,simprocAttr, *])
      try simp -dsimp (maxSteps:=999999) (disch:=omega) only[go_sem,simprocAttr, *,shape1,jaq,jan,jas,jar]
    · repeat' (first | apply wz1|apply wz2|apply wz3|apply wz4|apply wz5|apply wz6 | simp -dsimp (maxSteps:=999999) (disch:=omega) only[go_sem,simprocAttr, *])
      refine wz7 (fun hb=>?_) (fun hb=>?_) <;> try simp -dsimp (maxSteps:=999999) (disch:=omega) only[go_sem,simprocAttr,decide_eq_true_eq,decide_eq_false_iff_not,Bool.not_eq_true,Bool.not_eq_false,Int.not_lt,Int.not_le] at hb
      repeat' (first | apply wz1|apply wz2|apply wz3|apply wz4|apply wz5|apply wz6 | simp -dsimp (maxSteps:=999999) (disch:=omega) only[go_sem,simprocAttr, *])
      refine wz7 (fun hb=>?_) (fun hb=>?_) <;> try simp -dsimp (maxSteps:=999999) (disch:=omega) only[go_sem,simprocAttr,decide_eq_true_eq,decide_eq_false_iff_not,Bool.not_eq_true,Bool.not_eq_false,Int.not_lt,Int.not_le] at hb
      repeat' (first | apply wz1|apply wz2|apply wz3|apply wz4|apply wz5|apply wz6 | simp -dsimp (maxSteps:=999999) (disch:=omega) only[go_sem,simprocAttr, *])
      refine wz7 (fun hb=>?_) (fun hb=>?_) <;> try simp -dsimp (maxSteps:=999999) (disch:=omega) only[go_sem,simprocAttr,decide_eq_true_eq,decide_eq_false_iff_not,Bool.not_eq_true,Bool.not_eq_false,Int.not_lt,Int.not_le] at hb
      repeat' (first | apply wz1|apply wz2|apply wz3|apply wz4|apply wz5|apply wz6 | simp -dsimp (maxSteps:=999999) (disch:=omega) only[go_sem,simprocAttr, *])
      refine wz7 (fun hb=>?_) (fun hb=>?_) <;> try simp -dsimp (maxSteps:=999999) (disch:=omega) only[go_sem,simprocAttr,decide_eq_true_eq,decide_eq_false_iff_not,Bool.not_eq_true,Bool.not_eq_false,Int.not_lt,Int.not_le] at hb
      repeat' (first | apply wz1|apply wz2|apply wz3|apply wz4|apply wz5|apply wz6 | simp -dsimp (maxSteps:=999999) (disch:=omega) only[go_sem,simprocAttr, *])
      try simp -dsimp (maxSteps:=999999) (disch:=omega) only[go_sem,simprocAttr, *,shape1,jaq,jan,jas,jar]
    · repeat' (first | apply wz1|apply wz2|apply wz3|apply wz4|apply wz5|apply wz6 | simp -dsimp (maxSteps:=999999) (disch:=omega) only[go_sem,simprocAttr, *])
      refine wz7 (fun hb=>?_) (fun hb=>?_) <;> try simp -dsimp (maxSteps:=999999) (disch:=omega) only[go_sem,simprocAttr,decide_eq_true_eq,decide_eq_false_iff_not,Bool.not_eq_true,Bool.not_eq_false,Int.not_lt,Int.not_le] at hb
      repeat' (first | apply wz1|apply wz2|apply wz3|apply wz4|apply wz5|apply wz6 | simp -dsimp (maxSteps:=999999) (disch:=omega) only[go_sem,simprocAttr, *])
      refine wz7 (fun hb=>?_) (fun hb=>?_) <;> try simp -dsimp (maxSteps:=999999) (disch:=omega) only[go_sem,simprocAttr,decide_eq_true_eq,decide_eq_false_iff_not,Bool.not_eq_true,Bool.not_eq_false,Int.not_lt,Int.not_le] at hb
      repeat' (first | apply wz1|apply wz2|apply wz3|apply wz4|apply wz5|apply wz6 | simp -dsimp (maxSteps:=999999) (disch:=omega) only[go_sem,simprocAttr, *])
      refine wz7 (fun hb=>?_) (fun hb=>?_) <;> try simp -dsimp (maxSteps:=999999) (disch:=omega) only[go_sem,simprocAttr,decide_eq_true_eq,decide_eq_false_iff_not,Bool.not_eq_true,Bool.not_eq_false,Int.not_lt,Int.not_le] at hb
      repeat' (first | apply wz1|apply wz2|apply wz3|apply wz4|apply wz5|apply wz6 | simp -dsimp (maxSteps:=999999) (disch:=omega) only[go_sem,simprocAttr, *])
      refine wz7 (fun hb=>?_) (fun hb=>?_) <;> try simp -dsimp (maxSteps:=999999) (disch:=omega) only[go_sem,simprocAttr,decide_eq_true_eq,decide_eq_false_iff_not,Bool.not_eq_true,Bool.not_eq_false,Int.not_lt,Int.not_le] at hb
      repeat' (first | apply wz1|apply wz2|apply wz3|apply wz4|apply wz5|apply wz6 | simp -dsimp (maxSteps:=999999) (disch:=omega) only[go_sem,simprocAttr, *])
      try simp -dsimp (maxSteps:=999999) (disch:=omega) only[go_sem,simprocAttr, *,shape1,jaq,jan,jas,jar]
  by_cases h4 : k = 4
  · subst h4
    by_cases hs : s = 0 <;> by_cases hl : l.length = 1
    · repeat' (first | apply wz1|apply wz2|apply wz3|apply wz4|apply wz5|apply wz6 | simp -dsimp (maxSteps:=999999) (disch:=omega) only[go_sem,simprocAttr, *])
      refine wz7 (fun hb=>?_) (fun hb=>?_) <;> try simp -dsimp (maxSteps:=999999) (disch:=omega) only[go_sem,simprocAttr,decide_eq_true_eq,decide_eq_false_iff_not,Bool.not_eq_true,Bool.not_eq_false,Int.not_lt,Int.not_le] at hb
      repeat' (first | apply wz1|apply wz2|apply wz3|apply wz4|apply wz5|apply wz6 | simp -dsimp (maxSteps:=999999) (disch:=omega) only[go_sem,simprocAttr, *])
      refine wz7 (fun hb=>?_) (fun hb=>?_) <;> try simp -dsimp (maxSteps:=999999) (disch:=omega) only[go_sem,simprocAttr,decide_eq_true_eq,decide_eq_false_iff_not,Bool.not_eq_true,Bool.not_eq_false,Int.not_lt,Int.not_le] at hb
      repeat' (first | apply wz1|apply wz2|apply wz3|apply wz4|apply wz5|apply wz6 | simp -dsimp (maxSteps:=999999) (disch:=omega) only[go_sem,simprocAttr, *])
      refine wz7 (fun hb=>?_) (fun hb=>?_) <;> try simp -dsimp (maxSteps:=999999) (disch:=omega) only[go_sem,simprocAttr,decide_eq_true_eq,decide_eq_false_iff_not,Bool.not_eq_true,Bool.not_eq_false,Int.not_lt,Int.not_le] at hb
      repeat' (first | apply wz1|apply wz2|apply wz3|apply wz4|apply wz5|apply wz6 | simp -dsimp (maxSteps:=999999) (disch:=omega) only[go_sem,simprocAttr, *])
      refine wz7 (fun hb=>?_) (fun hb=>?_) <;> try simp -dsimp (maxSteps:=999999) (disch:=omega) only[go_sem,simprocAttr,decide_eq_true_eq,decide_eq_false_iff_not,Bool.not_eq_true,Bool.not_eq_false,Int.not_lt,Int.not_le] at hb
      repeat' (first | apply wz1|apply wz2|apply wz3|apply wz4|apply wz5|apply wz6 | simp -dsimp (maxSteps:=999999) (disch:=omega) only[go_sem,simprocAttr, *])
      refine wz7 (fun hb=>?_) (fun hb=>?_) <;> try simp -dsimp (maxSteps:=999999) (disch:=omega) only[go_sem,simprocAttr,decide_eq_true_eq,decide_eq_false_iff_not,Bool.not_eq_true,Bool.not_eq_false,Int.not_lt,Int.not_le] at hb
      repeat' (first | apply wz1|apply wz2|apply wz3|apply wz4|apply wz5|apply wz6 | simp -dsimp (maxSteps:=999999) (disch:=omega) only[go_sem,simprocAttr, *])
      refine wz7 (fun hb=>?_) (fun hb=>?_) <;> try simp -dsimp (maxSteps:=999999) (disch:=omega) only[go_sem,simprocAttr,decide_eq_true_eq,decide_eq_false_iff_not,Bool.not_eq_true,Bool.not_eq_false,Int.not_lt,Int.not_le] at hb
      repeat' (first | apply wz1|apply wz2|apply wz3|apply wz4|apply wz5|apply wz6 | simp -dsimp (maxSteps:=999999) (disch:=omega) only[go_sem,simprocAttr, *])
      try simp -dsimp (maxSteps:=999999) (disch:=omega) only[go_sem,simprocAttr, *,shape1,jaq,jan,jas,jar]
    · repeat' (first | apply wz1|apply wz2|apply wz3|apply wz4|apply wz5|apply wz6 | simp -dsimp (maxSteps:=999999) (disch:=omega) only[go_sem,simprocAttr, *])
      refine wz7 (fun hb=>?_) (fun hb=>?_) <;> try simp -dsimp (maxSteps:=999999) (disch:=omega) only[go_sem,simprocAttr,decide_eq_true_eq,decide_eq_false_iff_not,Bool.not_eq_true,Bool.not_eq_false,Int.not_lt,Int.not_le] at hb
      repeat' (first | apply wz1|apply wz2|apply wz3|apply wz4|apply wz5|apply wz6 | simp -dsimp (maxSteps:=999999) (disch:=omega) only[go_sem,simprocAttr, *])
      refine wz7 (fun hb=>?_) (fun hb=>?_) <;> try simp -dsimp (maxSteps:=999999) (disch:=omega) only[go_sem,simprocAttr,decide_eq_true_eq,decide_eq_false_iff_not,Bool.not_eq_true,Bool.not_eq_false,Int.not_lt,Int.not_le] at hb
      repeat' (first | apply wz1|apply wz2|apply wz3|apply wz4|apply wz5|apply wz6 | simp -dsimp (maxSteps:=999999) (disch:=omega) only[go_sem,simprocAttr, *])
      refine wz7 (fun hb=>?_) (fun hb=>?_) <;> try simp -dsimp (maxSteps:=999999) (disch:=omega) only[go_sem,simprocAttr,decide_eq_true_eq,decide_eq_false_iff_not,Bool.not_eq_true,Bool.not_eq_false,Int.not_lt,Int.not_le] at hb
      repeat' (first | apply wz1|apply wz2|apply wz3|apply wz4|apply wz5|apply wz6 | simp -dsimp (maxSteps:=999999) (disch:=omega) only[go_sem,simprocAttr, *])
      refine wz7 (fun hb=>?_) (fun hb=>?_) <;> try simp -dsimp (maxSteps:=999999) (disch:=omega) only[go_sem,simprocAttr,decide_eq_true_eq,decide_eq_false_iff_not,Bool.not_eq_true,Bool.not_eq_false,Int.not_lt,Int.not_le] at hb
      repeat' (first | apply wz1|apply wz2|apply wz3|apply wz4|apply wz5|apply wz6 | simp -dsimp (maxSteps:=999999) (disch:=omega) only[go_sem,simprocAttr, *])
      refine wz7 (fun hb=>?_) (fun hb=>?_) <;> try simp -dsimp (maxSteps:=999999) (disch:=omega) only[go_sem,simprocAttr,decide_eq_true_eq,decide_eq_false_iff_not,Bool.not_eq_true,Bool.not_eq_false,Int.not_lt,Int.not_le] at hb
      repeat' (first | apply wz1|apply wz2|apply wz3|apply wz4|apply wz5|apply wz6 | simp -dsimp (maxSteps:=999999) (disch:=omega) only[go_sem,simprocAttr, *])
      refine wz7 (fun hb=>?_) (fun hb=>?_) <;> try simp -dsimp (maxSteps:=999999) (disch:=omega) only[go_sem,simprocAttr,decide_eq_true_eq,decide_eq_false_iff_not,Bool.not_eq_true,Bool.not_eq_false,Int.not_lt,Int.not_le] at hb
      repeat' (first | apply wz1|apply wz2|apply wz3|apply wz4|apply wz5|apply wz6 | simp -dsimp (maxSteps:=999999) (disch:=omega) only[go_sem,simprocAttr, *])
      try simp -dsimp (maxSteps:=999999) (disch:=omega) only[go_sem,simprocAttr, *,shape1,jaq,jan,jas,jar]
    · repeat' (first | apply wz1|apply wz2|apply wz3|apply wz4|apply wz5|apply wz6 | simp -dsimp (maxSteps:=999999) (disch:=omega) only[go_sem,simprocAttr, *])
      refine wz7 (fun hb=>?_) (fun hb=>?_) <;> try simp -dsimp (maxSteps:=999999) (disch:=omega) only[go_sem,simprocAttr,decide_eq_true_eq,decide_eq_false_iff_not,Bool.not_eq_true,Bool.not_eq_false,Int.not_lt,Int.not_le] at hb
      repeat' (first | apply wz1|apply wz2|apply wz3|apply wz4|apply wz5|apply wz6 | simp -dsimp (maxSteps:=999999) (disch:=omega) only[go_sem,simprocAttr, *])
      refine wz7 (fun hb=>?_) (fun hb=>?_) <;> try simp -dsimp (maxSteps:=999999) (disch:=omega) only[go_sem,simprocAttr,decide_eq_true_eq,decide_eq_false_iff_not,Bool.not_eq_true,Bool.not_eq_false,Int.not_lt,Int.not_le] at hb
      repeat' (first | apply wz1|apply wz2|apply wz3|apply wz4|apply wz5|apply wz6 | simp -dsimp (maxSteps:=999999) (disch:=omega) only[go_sem,simprocAttr, *])
      refine wz7 (fun hb=>?_) (fun hb=>?_) <;> try simp -dsimp (maxSteps:=999999) (disch:=omega) only[go_sem,simprocAttr,decide_eq_true_eq,decide_eq_false_iff_not,Bool.not_eq_true,Bool.not_eq_false,Int.not_lt,Int.not_le] at hb
      repeat' (first | apply wz1|apply wz2|apply wz3|apply wz4|apply wz5|apply wz6 | simp -dsimp (maxSteps:=999999) (disch:=omega) only[go_sem,simprocAttr, *])
      refine wz7 (fun hb=>?_) (fun hb=>?_) <;> try simp -dsimp (maxSteps:=999999) (disch:=omega) only[go_sem,simprocAttr,decide_eq_true_eq,decide_eq_false_iff_not,Bool.not_eq_true,Bool.not_eq_false,Int.not_lt,Int.not_le] at hb
      repeat' (first | apply wz1|apply wz2|apply wz3|apply wz4|apply wz5|apply wz6 | simp -dsimp (maxSteps:=999999) (disch:=omega) only[go_sem,simprocAttr, *])
      refine wz7 (fun hb=>?_) (fun hb=>?_) <;> try simp -dsimp (maxSteps:=999999) (disch:=omega) only[go_sem,simprocAttr,decide_eq_true_eq,decide_eq_false_iff_not,Bool.not_eq_true,Bool.not_eq_false,Int.not_lt,Int.not_le] at hb
      repeat' (first | apply wz1|apply wz2|apply wz3|apply wz4|apply wz5|apply wz6 | simp -dsimp (maxSteps:=999999) (disch:=omega) only[go_sem,simprocAttr, *])
      refine wz7 (fun hb=>?_) (fun hb=>?_) <;> try simp -dsimp (maxSteps:=999999) (disch:=omega) only[go_sem,simprocAttr,decide_eq_true_eq,decide_eq_false_iff_not,Bool.not_eq_true,Bool.not_eq_false,Int.not_lt,Int.not_le] at hb
      repeat' (first | apply wz1|apply wz2|apply wz3|apply wz4|apply wz5|apply wz6 | simp -dsimp (maxSteps:=999999) (disch:=omega) only[go_sem,simprocAttr, *])
      try simp -dsimp (maxSteps:=999999) (disch:=omega) only[go_sem,simprocAttr, *,shape1,jaq,jan,jas,jar]
    · repeat' (first | apply wz1|apply wz2|apply wz3|apply wz4|apply wz5|apply wz6 | simp -dsimp (maxSteps:=999999) (disch:=omega) only[go_sem,simprocAttr, *])
      refine wz7 (fun hb=>?_) (fun hb=>?_) <;> try simp -dsimp (maxSteps:=999999) (disch:=omega) only[go_sem,simprocAttr,decide_eq_true_eq,decide_eq_false_iff_not,Bool.not_eq_true,Bool.not_eq_false,Int.not_lt,Int.not_le] at hb
      repeat' (first | apply wz1|apply wz2|apply wz3|apply wz4|apply wz5|apply wz6 | simp -dsimp (maxSteps:=999999) (disch:=omega) only[go_sem,simprocAttr, *])
      refine wz7 (fun hb=>?_) (fun hb=>?_) <;> try simp -dsimp (maxSteps:=999999) (disch:=omega) only[go_sem,simprocAttr,decide_eq_true_eq,decide_eq_false_iff_not,Bool.not_eq_true,Bool.not_eq_false,Int.not_lt,Int.not_le] at hb
      repeat' (first | apply wz1|apply wz2|apply wz3|apply wz4|apply wz5|apply wz6 | simp -dsimp (maxSteps:=999999) (disch:=omega) only[go_sem,simprocAttr, *])
      refine wz7 (fun hb=>?_) (fun hb=>?_) <;> try simp -dsimp (maxSteps:=999999) (disch:=omega) only[go_sem,simprocAttr,decide_eq_true_eq,decide_eq_false_iff_not,Bool.not_eq_true,Bool.not_eq_false,Int.not_lt,Int.not_le] at hb
      repeat' (first | apply wz1|apply wz2|apply wz3|apply wz4|apply wz5|apply wz6 | simp -dsimp (maxSteps:=999999) (disch:=omega) only[go_sem,simprocAttr, *])
      refine wz7 (fun hb=>?_) (fun hb=>?_) <;> try simp -dsimp (maxSteps:=999999) (disch:=omega) only[go_sem,simprocAttr,decide_eq_true_eq,decide_eq_false_iff_not,Bool.not_eq_true,Bool.not_eq_false,Int.not_lt,Int.not_le] at hb
      repeat' (first | apply wz1|apply wz2|apply wz3|apply wz4|apply wz5|apply wz6 | simp -dsimp (maxSteps:=999999) (disch:=omega) only[go_sem,simprocAttr, *])
      refine wz7 (fun hb=>?_) (fun hb=>?_) <;> try simp -dsimp (maxSteps:=999999) (disch:=omega) only[go_sem,simprocAttr,decide_eq_true_eq,decide_eq_false_iff_not,Bool.not_eq_true,Bool.not_eq_false,Int.not_lt,Int.not_le] at hb
      repeat' (first | apply wz1|apply wz2|apply wz3|apply wz4|apply wz5|apply wz6 | simp -dsimp (maxSteps:=999999) (disch:=omega) only[go_sem,simprocAttr, *])
      refine wz7 (fun hb=>?_) (fun hb=>?_) <;> try simp -dsimp (maxSteps:=999999) (disch:=omega) only[go_sem,simprocAttr,decide_eq_true_eq,decide_eq_false_iff_not,Bool.not_eq_true,Bool.not_eq_false,Int.not_lt,Int.not_le] at hb
      repeat' (first | apply wz1|apply wz2|apply wz3|apply wz4|apply wz5|apply wz6 | simp -dsimp (maxSteps:=999999) (disch:=omega) only[go_sem,simprocAttr, *])
      try simp -dsimp (maxSteps:=999999) (disch:=omega) only[go_sem,simprocAttr, *,shape1,jaq,jan,jas,jar]
  by_cases h5 : k = 5
  · subst h5
    by_cases hs : s = 0 <;> by_cases hl : l.length = 1
    · repeat' (first | apply wz1|apply wz2|apply wz3|apply wz4|apply wz5|apply wz6 | simp -dsimp (maxSteps:=999999) (disch:=omega) only[go_sem,simprocAttr, *])
      refine wz7 (fun hb=>?_) (fun hb=>?_) <;> try simp -dsimp (maxSteps:=999999) (disch:=omega) only[go_sem,simprocAttr,decide_eq_true_eq,decide_eq_false_iff_not,Bool.not_eq_true,Bool.not_eq_false,Int.not_lt,Int.not_le] at hb
      repeat' (first | apply wz1|apply wz2|apply wz3|apply wz4|apply wz5|apply wz6 | simp -dsimp (maxSteps:=999999) (disch:=omega) only[go_sem,simprocAttr, *])
      refine wz7 (fun hb=>?_) (fun hb=>?_) <;> try simp -dsimp (maxSteps:=999999) (disch:=omega) only[go_sem,simprocAttr,decide_eq_true_eq,decide_eq_false_iff_not,Bool.not_eq_true,Bool.not_eq_false,Int.not_lt,Int.not_le] at hb
      repeat' (first | apply wz1|apply wz2|apply wz3|apply wz4|apply wz5|apply wz6 | simp -dsimp (maxSteps:=999999) (disch:=omega) only[go_sem,simprocAttr, *])
      refine wz7 (fun hb=>?_) (fun hb=>?_) <;> try simp -dsimp (maxSteps:=999999) (disch:=omega) only[go_sem,simprocAttr,decide_eq_true_eq,decide_eq_false_iff_not,Bool.not_eq_true,Bool.not_eq_false,Int.not_lt,Int.not_le] at hb
      repeat' (first | apply wz1|apply wz2|apply wz3|apply wz4|apply wz5|apply wz6 | simp -dsimp (maxSteps:=999999) (disch:=omega) only[go_sem,simprocAttr, *])
      refine wz7 (fun hb=>?_) (fun hb=>?_) <;> try simp -dsimp (maxSteps:=999999) (disch:=omega) only[go_sem,simprocAttr,decide_eq_true_eq,decide_eq_false_iff_not,Bool.not_eq_true,Bool.not_eq_false,Int.not_lt,Int.not_le] at hb
      repeat' (first | apply wz1|apply wz2|apply wz3|apply wz4|apply wz5|apply wz6 | simp -dsimp (maxSteps:=999999) (disch:=omega) only[go_sem,simprocAttr, *])
      refine wz7 (fun hb=>?_) (fun hb=>?_) <;> try simp -dsimp (maxSteps:=999999) (disch:=omega) only[go_sem,simprocAttr,decide_eq_true_eq,decide_eq_false_iff_not,Bool.not_eq_true,Bool.not_eq_false,Int.not_lt,Int.not_le] at hb
      repeat' (first | apply wz1|apply wz2|apply wz3|apply wz4|apply wz5|apply wz6 | simp -dsimp (maxSteps:=999999) (disch:=omega) only[go_sem,simprocAttr, *])
      refine wz7 (fun hb=>?_) (fun hb=>?_) <;> try simp -dsimp (maxSteps:=999999) (disch:=omega) only[go_sem,simprocAttr,decide_eq_true_eq,decide_eq_false_iff_not,Bool.not_eq_true,Bool.not_eq_false,Int.not_lt,Int.not_le] at hb
      repeat' (first | apply wz1|apply wz2|apply wz3|apply wz4|apply wz5|apply wz6 | simp -dsimp (maxSteps:=999999) (disch:=omega) only[go_sem,simprocAttr, *])
      try simp -dsimp (maxSteps:=999999) (disch:=omega) only[go_sem,simprocAttr, *,shape1,jaq,jan,jas,jar]
    · repeat' (first | apply wz1|apply wz2|apply wz3|apply wz4|apply wz5|apply wz6 | simp -dsimp (maxSteps:=999999) (disch:=omega) only[go_sem,simprocAttr, *])
      refine wz7 (fun hb=>?_) (fun hb=>?_) <;> try simp -dsimp (maxSteps:=999999) (disch:=omega) only[go_sem,simprocAttr,decide_eq_true_eq,decide_eq_false_iff_not,Bool.not_eq_true,Bool.not_eq_false,Int.not_lt,Int.not_le] at hb
      repeat' (first | apply wz1|apply wz2|apply wz3|apply wz4|apply wz5|apply wz6 | simp -dsimp (maxSteps:=999999) (disch:=omega) only[go_sem,simprocAttr, *])
      refine wz7 (fun hb=>?_) (fun hb=>?_) <;> try simp -dsimp (maxSteps:=999999) (disch:=omega) only[go_sem,simprocAttr,decide_eq_true_eq,decide_eq_false_iff_not,Bool.not_eq_true,Bool.not_eq_false,Int.not_lt,Int.not_le] at hb
      repeat' (first | apply wz1|apply wz2|apply wz3|apply wz4|apply wz5|apply wz6 | simp -dsimp (maxSteps:=999999) (disch:=omega) only[go_sem,simprocAttr, *])
      refine wz7 (fun hb=>?_) (fun hb=>?_) <;> try simp -dsimp (maxSteps:=999999) (disch:=omega) only[go_sem,simprocAttr,decide_eq_true_eq,decide_eq_false_iff_not,Bool.not_eq_true,Bool.not_eq_false,Int.not_lt,Int.not_le] at hb
      repeat' (first | apply wz1|apply wz2|apply wz3|apply wz4|apply wz5|apply wz6 | simp -dsimp (maxSteps:=999999) (disch:=omega) only[go_sem,simprocAttr, *])
      refine wz7 (fun hb=>?_) (fun hb=>?_) <;> try simp -dsimp (maxSteps:=999999) (disch:=omega) only[go_sem,simprocAttr,decide_eq_true_eq,decide_eq_false_iff_not,Bool.not_eq_true,Bool.not_eq_false,Int.not_lt,Int.not_le] at hb
      repeat' (first | apply wz1|apply wz2|apply wz3|apply wz4|apply wz5|apply wz6 | simp -dsimp (maxSteps:=999999) (disch:=omega) only[go_sem,simprocAttr, *])
      refine wz7 (fun hb=>?_) (fun hb=>?_) <;> try simp -dsimp (maxSteps:=999999) (disch:=omega) only[go_sem,simprocAttr,decide_eq_true_eq,decide_eq_false_iff_not,Bool.not_eq_true,Bool.not_eq_false,Int.not_lt,Int.not_le] at hb
      repeat' (first | apply wz1|apply wz2|apply wz3|apply wz4|apply wz5|apply wz6 | simp -dsimp (maxSteps:=999999) (disch:=omega) only[go_sem,simprocAttr, *])
      refine wz7 (fun hb=>?_) (fun hb=>?_) <;> try simp -dsimp (maxSteps:=999999) (disch:=omega) only[go_sem,simprocAttr,decide_eq_true_eq,decide_eq_false_iff_not,Bool.not_eq_true,Bool.not_eq_false,Int.not_lt,Int.not_le] at hb
      repeat' (first | apply wz1|apply wz2|apply wz3|apply wz4|apply wz5|apply wz6 | simp -dsimp (maxSteps:=999999) (disch:=omega) only[go_sem,simprocAttr, *])
      try simp -dsimp (maxSteps:=999999) (disch:=omega) only[go_sem,simprocAttr, *,shape1,jaq,jan,jas,jar]
    · repeat' (first | apply wz1|apply wz2|apply wz3|apply wz4|apply wz5|apply wz6 | simp -dsimp (maxSteps:=999999) (disch:=omega) only[go_sem,simprocAttr, *])
      refine wz7 (fun hb=>?_) (fun hb=>?_) <;> try simp -dsimp (maxSteps:=999999) (disch:=omega) only[go_sem,simprocAttr,decide_eq_true_eq,decide_eq_false_iff_not,Bool.not_eq_true,Bool.not_eq_false,Int.not_lt,Int.not_le] at hb
      repeat' (first | apply wz1|apply wz2|apply wz3|apply wz4|apply wz5|apply wz6 | simp -dsimp (maxSteps:=999999) (disch:=omega) only[go_sem,simprocAttr, *])
      refine wz7 (fun hb=>?_) (fun hb=>?_) <;> try simp -dsimp (maxSteps:=999999) (disch:=omega) only[go_sem,simprocAttr,decide_eq_true_eq,decide_eq_false_iff_not,Bool.not_eq_true,Bool.not_eq_false,Int.not_lt,Int.not_le] at hb
      repeat' (first | apply wz1|apply wz2|apply wz3|apply wz4|apply wz5|apply wz6 | simp -dsimp (maxSteps:=999999) (disch:=omega) only[go_sem,simprocAttr, *])
      refine wz7 (fun hb=>?_) (fun hb=>?_) <;> try simp -dsimp (maxSteps:=999999) (disch:=omega) only[go_sem,simprocAttr,decide_eq_true_eq,decide_eq_false_iff_not,Bool.not_eq_true,Bool.not_eq_false,Int.not_lt,Int.not_le] at hb
      repeat' (first | apply wz1|apply wz2|apply wz3|apply wz4|apply wz5|apply wz6 | simp -dsimp (maxSteps:=999999) (disch:=omega) only[go_sem,simprocAttr, *])
      refine wz7 (fun hb=>?_) (fun hb=>?_) <;> try simp -dsimp (maxSteps:=999999) (disch:=omega) only[go_sem,simprocAttr,decide_eq_true_eq,decide_eq_false_iff_not,Bool.not_eq_true,Bool.not_eq_false,Int.not_lt,Int.not_le] at hb
      repeat' (first | apply wz1|apply wz2|apply wz3|apply wz4|apply wz5|apply wz6 | simp -dsimp (maxSteps:=999999) (disch:=omega) only[go_sem,simprocAttr, *])
      refine wz7 (fun hb=>?_) (fun hb=>?_) <;> try simp -dsimp (maxSteps:=999999) (disch:=omega) only[go_sem,simprocAttr,decide_eq_true_eq,decide_eq_false_iff_not,Bool.not_eq_true,Bool.not_eq_false,Int.not_lt,Int.not_le] at hb
      repeat' (first | apply wz1|apply wz2|apply wz3|apply wz4|apply wz5|apply wz6 | simp -dsimp (maxSteps:=999999) (disch:=omega) only[go_sem,simprocAttr, *])
      refine wz7 (fun hb=>?_) (fun hb=>?_) <;> try simp -dsimp (maxSteps:=999999) (disch:=omega) only[go_sem,simprocAttr,decide_eq_true_eq,decide_eq_false_iff_not,Bool.not_eq_true,Bool.not_eq_false,Int.not_lt,Int.not_le] at hb
      repeat' (first | apply wz1|apply wz2|apply wz3|apply wz4|apply wz5|apply wz6 | simp -dsimp (maxSteps:=999999) (disch:=omega) only[go_sem,simprocAttr, *])
      try simp -dsimp (maxSteps:=999999) (disch:=omega) only[go_sem,simprocAttr, *,shape1,jaq,jan,jas,jar]
    · repeat' (first | apply wz1|apply wz2|apply wz3|apply wz4|apply wz5|apply wz6 | simp -dsimp (maxSteps:=999999) (disch:=omega) only[go_sem,simprocAttr, *])
      refine wz7 (fun hb=>?_) (fun hb=>?_) <;> try simp -dsimp (maxSteps:=999999) (disch:=omega) only[go_sem,simprocAttr,decide_eq_true_eq,decide_eq_false_iff_not,Bool.not_eq_true,Bool.not_eq_false,Int.not_lt,Int.not_le] at hb
      repeat' (first | apply wz1|apply wz2|apply wz3|apply wz4|apply wz5|apply wz6 | simp -dsimp (maxSteps:=999999) (disch:=omega) only[go_sem,simprocAttr, *])
      refine wz7 (fun hb=>?_) (fun hb=>?_) <;> try simp -dsimp (maxSteps:=999999) (disch:=omega) only[go_sem,simprocAttr,decide_eq_true_eq,decide_eq_false_iff_not,Bool.not_eq_true,Bool.not_eq_false,Int.not_lt,Int.not_le] at hb
      repeat' (first | apply wz1|apply wz2|apply wz3|apply wz4|apply wz5|apply wz6 | simp -dsimp (maxSteps:=999999) (disch:=omega) only[go_sem,simprocAttr, *])
      refine wz7 (fun hb=>?_) (fun hb=>?_) <;> try simp -dsimp (maxSteps:=999999) (disch:=omega) only[go_sem,simprocAttr,decide_eq_true_eq,decide_eq_false_iff_not,Bool.not_eq_true,Bool.not_eq_false,Int.not_lt,Int.not_le] at hb
      repeat' (first | apply wz1|apply wz2|apply wz3|apply wz4|apply wz5|apply wz6 | simp -dsimp (maxSteps:=999999) (disch:=omega) only[go_sem,simprocAttr, *])
      refine wz7 (fun hb=>?_) (fun hb=>?_) <;> try simp -dsimp (maxSteps:=999999) (disch:=omega) only[go_sem,simprocAttr,decide_eq_true_eq,decide_eq_false_iff_not,Bool.not_eq_true,Bool.not_eq_false,Int.not_lt,Int.not_le] at hb
      repeat' (first | apply wz1|apply wz2|apply wz3|apply wz4|apply wz5|apply wz6 | simp -dsimp (maxSteps:=999999) (disch:=omega) only[go_sem,simprocAttr, *])
      refine wz7 (fun hb=>?_) (fun hb=>?_) <;> try simp -dsimp (maxSteps:=999999) (disch:=omega) only[go_sem,simprocAttr,decide_eq_true_eq,decide_eq_false_iff_not,Bool.not_eq_true,Bool.not_eq_false,Int.not_lt,Int.not_le] at hb
      repeat' (first | apply wz1|apply wz2|apply wz3|apply wz4|apply wz5|apply wz6 | simp -dsimp (maxSteps:=999999) (disch:=omega) only[go_sem,simprocAttr, *])
      refine wz7 (fun hb=>?_) (fun hb=>?_) <;> try simp -dsimp (maxSteps:=999999) (disch:=omega) only[go_sem,simprocAttr,decide_eq_true_eq,decide_eq_false_iff_not,Bool.not_eq_true,Bool.not_eq_false,Int.not_lt,Int.not_le] at hb
      repeat' (first | apply wz1|apply wz2|apply wz3|apply wz4|apply wz5|apply wz6 | simp -dsimp (maxSteps:=999999) (disch:=omega) only[go_sem,simprocAttr, *])
      try simp -dsimp (maxSteps:=999999) (disch:=omega) only[go_sem,simprocAttr, *,shape1,jaq,jan,jas,jar]
  repeat' (first | apply wz1|apply wz2|apply wz3|apply wz4|apply wz5|apply wz6 | simp -dsimp (maxSteps:=999999) (disch:=omega) only[go_sem,simprocAttr, *])
  refine wz7 (fun hb=>?_) (fun hb=>?_) <;> try simp -dsimp (maxSteps:=999999) (disch:=omega) only[go_sem,simprocAttr,decide_eq_true_eq,decide_eq_false_iff_not,Bool.not_eq_true,Bool.not_eq_false,Int.not_lt,Int.not_le] at hb
  repeat' (first | apply wz1|apply wz2|apply wz3|apply wz4|apply wz5|apply wz6 | simp -dsimp (maxSteps:=999999) (disch:=omega) only[go_sem,simprocAttr, *])
  refine wz7 (fun hb=>?_) (fun hb=>?_) <;> try simp -dsimp (maxSteps:=999999) (disch:=omega) only[go_sem,simprocAttr,decide_eq_true_eq,decide_eq_false_iff_not,Bool.not_eq_true,Bool.not_eq_false,Int.not_lt,Int.not_le] at hb
  repeat' (first | apply wz1|apply wz2|apply wz3|apply wz4|apply wz5|apply wz6 | simp -dsimp (maxSteps:=999999) (disch:=omega) only[go_sem,simprocAttr, *])
  refine wz7 (fun hb=>?_) (fun hb=>?_) <;> try simp -dsimp (maxSteps:=999999) (disch:=omega) only[go_sem,simprocAttr,decide_eq_true_eq,decide_eq_false_iff_not,Bool.not_eq_true,Bool.not_eq_false,Int.not_lt,Int.not_le] at hb
  repeat' (first | apply wz1|apply wz2|apply wz3|apply wz4|apply wz5|apply wz6 | simp -dsimp (maxSteps:=999999) (disch:=omega) only[go_sem,simprocAttr, *])
  refine wz7 (fun hb=>?_) (fun hb=>?_) <;> try simp -dsimp (maxSteps:=999999) (disch:=omega) only[go_sem,simprocAttr,decide_eq_true_eq,decide_eq_false_iff_not,Bool.not_eq_true,Bool.not_eq_false,Int.not_lt,Int.not_le] at hb
  repeat' (first | apply wz1|apply wz2|apply wz3|apply wz4|apply wz5|apply wz6 | simp -dsimp (maxSteps:=999999) (disch:=omega) only[go_sem,simprocAttr, *])
  refine wz7 (fun hb=>?_) (fun hb=>?_) <;> try simp -dsimp (maxSteps:=999999) (disch:=omega) only[go_sem,simprocAttr,decide_eq_true_eq,decide_eq_false_iff_not,Bool.not_eq_true,Bool.not_eq_false,Int.not_lt,Int.not_le] at hb
  repeat' (first | apply wz1|apply wz2|apply wz3|apply wz4|apply wz5|apply wz6 | simp -dsimp (maxSteps:=999999) (disch:=omega) only[go_sem,simprocAttr, *])
  refine wz7 (fun hb=>?_) (fun hb=>?_) <;> try simp -dsimp (maxSteps:=999999) (disch:=omega) only[go_sem,simprocAttr,decide_eq_true_eq,decide_eq_false_iff_not,Bool.not_eq_true,Bool.not_eq_false,Int.not_lt,Int.not_le] at hb
  repeat' (first | apply wz1|apply wz2|apply wz3|apply wz4|apply wz5|apply wz6 | simp -dsimp (maxSteps:=999999) (disch:=omega) only[go_sem,simprocAttr, *])
  try simp -dsimp (maxSteps:=999999) (disch:=omega) only[go_sem,simprocAttr, *,shape1,jaq,jan,jas,jar]
mutual
def cntR : Rx -> Nat -> Int -> Bool × Int
  | .mk k s l,d,left=>if left - 1 < 0 ∨ d = 0 ∨ shape1 k s l.length = false then (false,left - 1) else cntL l (d - 1) (left - 1)
def cntL : List Rx -> Nat -> Int -> Bool × Int
  | [],_,left=>(true,left)
  | r :: l,d,left=>if (cntR r d left).1 then cntL l d (cntR r d left).2 else (false,(cntR r d left).2)
end
end Go.Proofs.W
end
section
namespace Go.Proofs.W
open Go Vm Go.Proofs.Zso
structure PtrTo (H H' : Heap) (p : Nat) (v : D) : Prop where
  len : H.length <= H'.length
  at_ : hget H' p = .arr [v]
  low : ∀ k,k < H.length -> k ≠ p -> hget H' k = hget H k
theorem jah {H : Heap} {p : Nat} {xs : List D} (h : hget H p = .arr xs) : p < H.length:=jdX h (by simp)
theorem PtrTo.trans {H H1 H2 : Heap} {p : Nat} {v w : D} (h : PtrTo H H1 p v) (g : PtrTo H1 H2 p w) : PtrTo H H2 p w:=
  ⟨Nat.le_trans h.len g.len,g.at_,fun k hk hne=>by rw [g.low k (Nat.lt_of_lt_of_le hk h.len) hne,h.low k hk hne]⟩
theorem jgS {N : Nat} {c : Code} {e : Env} {H : Heap} {Q : Ex -> Env -> Heap -> Prop} (I : Heap -> Prop) (h0 : I H) (h : ∀ H,I H -> WpB Tryz.prog A N c e H Q) : WpB Tryz.prog A N c e H Q:=h H h0
theorem jkM {H : Heap} {ob : Ob} {L : List Ob} : hget (H ++ ob :: L) H.length = ob:=by
  rw [jap];rfl
mutual
theorem jq9 : ∀ (r : Rx) (d : Nat) (left : Int),0 <= left -> (cntR r d left).2 <= left /\ ((cntR r d left).1 = true -> 0 <= (cntR r d left).2)
  | .mk k s l,d,left,h=>by
    simp only [cntR]
    split
    · exact ⟨by simp only;omega,fun h=>by cases h⟩
    · rename_i hc
      have:=jmI l (d - 1) (left - 1) (by omega)
      exact ⟨by omega,this.2⟩
theorem jmI : ∀ (l : List Rx) (d : Nat) (left : Int),0 <= left -> (cntL l d left).2 <= left /\ ((cntL l d left).1 = true -> 0 <= (cntL l d left).2)
  | [],d,left,h=>by simp [cntL,h]
  | r :: l,d,left,h=>by
    simp only [cntL]
    have h1:=jq9 r d left h
    split
    · rename_i hc
      have h2:=jmI l d _ (h1.2 hc)
      exact ⟨by omega,h2.2⟩
    · rename_i hc
      exact ⟨h1.1,fun h=>by cases h⟩
end
theorem jtJ : ∀ (d : Nat) (hd : d <= 1000) (r : Rx) (hr : okR r) (left : Int) (h0 : 0 <= left) (h1 : left <= 1000) (H : Heap) (p : Nat) (hp : hget H p = .arr [.int .i64 left]),
    EvF Tryz.prog A 47 [rxD r,.int .i64 d,.ptr p 0 0] H (fun x H'=>x = .bool (cntR r d left).1 /\ PtrTo H H' p (.int .i64 (cntR r d left).2)) (fun _ _=>False):=by
  intro d
  induction d with
  | zero=>
    intro hd r hr left h0 h1 H p hp
    have hlt:=jah hp
    have hsh:=jka r hr
    have hst:=jaH (jaW r)
    obtain ⟨k,s,l⟩:=r
    have hcn : cntR (.mk k s l) 0 left = (false,left - 1):=by simp [cntR]
    rw [hcn]
    have c1:=jbf (.mk k s l)
    have c2:=jb4 (.mk k s l)
    have c3:=jbw (.mk k s l)
    generalize rxD (.mk k s l) = d at *
    refine jaj (n:=41) (rs:=[.tmp 6]) Tryz.func47 rfl rfl rfl rfl rfl rfl ?_
    (refine wz1 ?_;refine wz2 ?_;simp -dsimp (maxSteps:=999999) (disch:=omega) only[go_sem,simprocAttr, *])
    (refine wz1 ?_;refine wz2 ?_;simp -dsimp (maxSteps:=999999) (disch:=omega) only[go_sem,simprocAttr, *,jac])
    refine jgS (fun H1=>hget H1 p = .arr [.int .i64 (left - 1)] /\ PtrTo H H1 p (.int .i64 (left - 1))) ?_ ?_
    · refine ⟨jad (by simp;omega),⟨by simp,jad (by simp;omega),fun k hk hne=>?_⟩⟩
      rw [jaa (by omega),jac hk]
    · rintro H1 ⟨hp1,hPt⟩
      by_cases hl : left - 1 < 0
      · repeat' (first | apply wz1|apply wz2|apply wz3|apply wz4|apply wz5|apply wz6 | simp -dsimp (maxSteps:=999999) (disch:=omega) only[go_sem,simprocAttr, *])
        refine wz7 (fun hb=>?_) (fun hb=>?_) <;> try simp -dsimp (maxSteps:=999999) (disch:=omega) only[go_sem,simprocAttr,decide_eq_true_eq,decide_eq_false_iff_not,Bool.not_eq_true,Bool.not_eq_false,Int.not_lt,Int.not_le] at hb
        repeat' (first | apply wz1|apply wz2|apply wz3|apply wz4|apply wz5|apply wz6 | simp -dsimp (maxSteps:=999999) (disch:=omega) only[go_sem,simprocAttr, *])
      · repeat' (first | apply wz1|apply wz2|apply wz3|apply wz4|apply wz5|apply wz6 | simp -dsimp (maxSteps:=999999) (disch:=omega) only[go_sem,simprocAttr, *])
        refine wz7 (fun hb=>?_) (fun hb=>?_) <;> try simp -dsimp (maxSteps:=999999) (disch:=omega) only[go_sem,simprocAttr,decide_eq_true_eq,decide_eq_false_iff_not,Bool.not_eq_true,Bool.not_eq_false,Int.not_lt,Int.not_le] at hb
        repeat' (first | apply wz1|apply wz2|apply wz3|apply wz4|apply wz5|apply wz6 | simp -dsimp (maxSteps:=999999) (disch:=omega) only[go_sem,simprocAttr, *])
  | succ d ih=>
    intro hd r hr left h0 h1 H p hp
    have hlt:=jah hp
    have hsh:=jka r hr
    have hst:=jaH (jaW r)
    obtain ⟨k,s,l⟩:=r
    obtain ⟨_,_,_,_,hlen,hok⟩:=hr
    simp only [Rx.k,Rx.s,Rx.kids] at hsh
    refine jaj (n:=41) (rs:=[.tmp 6]) Tryz.func47 rfl rfl rfl rfl rfl rfl ?_
    (refine wz1 ?_;refine wz2 ?_;simp -dsimp (maxSteps:=999999) (disch:=omega) only[go_sem,simprocAttr, *])
    (refine wz1 ?_;refine wz2 ?_;simp -dsimp (maxSteps:=999999) (disch:=omega) only[go_sem,simprocAttr, *,jac])
    refine jgS (fun H1=>hget H1 p = .arr [.int .i64 (left - 1)] /\ PtrTo H H1 p (.int .i64 (left - 1)) /\ hget H1 H.length = .arr [rxD (.mk k s l)] /\ H.length < H1.length) ?_ ?_
    · refine ⟨jad (by simp;omega),⟨by simp,jad (by simp;omega),fun k hk hne=>?_⟩,?_,by simp⟩
      · rw [jaa (by omega),jac hk]
      · rw [jaa (by omega),jkM];rfl
    · rintro H1 ⟨hp1,hPt,hq,hql⟩
      by_cases hl : left - 1 < 0
      · have hcn : cntR (.mk k s l) (d + 1) left = (false,left - 1):=by simp only [cntR];rw [if_pos (.inl hl)]
        rw [hcn]
        repeat' (first | apply wz1|apply wz2|apply wz3|apply wz4|apply wz5|apply wz6 | simp -dsimp (maxSteps:=999999) (disch:=omega) only[go_sem,simprocAttr, *])
        refine wz7 (fun hb=>?_) (fun hb=>?_) <;> try simp -dsimp (maxSteps:=999999) (disch:=omega) only[go_sem,simprocAttr,decide_eq_true_eq,decide_eq_false_iff_not,Bool.not_eq_true,Bool.not_eq_false,Int.not_lt,Int.not_le] at hb
        repeat' (first | apply wz1|apply wz2|apply wz3|apply wz4|apply wz5|apply wz6 | simp -dsimp (maxSteps:=999999) (disch:=omega) only[go_sem,simprocAttr, *])
      · cases hs : shape1 k s l.length with
        | false=>
          have hcn : cntR (.mk k s l) (d + 1) left = (false,left - 1):=by simp only [cntR];rw [if_pos (.inr (.inr hs))]
          rw [hcn]
          rw [hs] at hsh
          repeat' (first | apply wz1|apply wz2|apply wz3|apply wz4|apply wz5|apply wz6 | simp -dsimp (maxSteps:=999999) (disch:=omega) only[go_sem,simprocAttr, *])
          refine jal bo60 rfl rfl hst hsh ?_
          simp -dsimp (maxSteps:=999999) (disch:=omega) only[go_sem,simprocAttr, *]
          refine wz7 (fun hb=>?_) (fun hb=>?_) <;> try simp -dsimp (maxSteps:=999999) (disch:=omega) only[go_sem,simprocAttr,decide_eq_true_eq,decide_eq_false_iff_not,Bool.not_eq_true,Bool.not_eq_false,Int.not_lt,Int.not_le] at hb
          repeat' (first | apply wz1|apply wz2|apply wz3|apply wz4|apply wz5|apply wz6 | simp -dsimp (maxSteps:=999999) (disch:=omega) only[go_sem,simprocAttr, *])
        | true=>
          have hcn : cntR (.mk k s l) (d + 1) left = cntL l d (left - 1):=by simp only [cntR];rw [if_neg (by simp [hs];omega)];rfl
          rw [hcn]
          rw [hs] at hsh
          clear hcn
          repeat' (first | apply wz1|apply wz2|apply wz3|apply wz4|apply wz5|apply wz6 | simp -dsimp (maxSteps:=999999) (disch:=omega) only[go_sem,simprocAttr, *])
          refine jal bo60 rfl rfl hst hsh ?_
          simp -dsimp (maxSteps:=999999) (disch:=omega) only[go_sem,simprocAttr, *]
          refine wz7 (fun hb=>?_) (fun hb=>?_) <;> try simp -dsimp (maxSteps:=999999) (disch:=omega) only[go_sem,simprocAttr,decide_eq_true_eq,decide_eq_false_iff_not,Bool.not_eq_true,Bool.not_eq_false,Int.not_lt,Int.not_le] at hb
          repeat' (first | apply wz1|apply wz2|apply wz3|apply wz4|apply wz5|apply wz6 | simp -dsimp (maxSteps:=999999) (disch:=omega) only[go_sem,simprocAttr, *])
          refine jae (fun e H2=>∃ j : Nat,j <= l.length /\ e 1 = .int .i64 ((d : Int) + 1) /\ e 2 = .ptr p 0 0 /\ e 28 = .sl false (rxDs l) /\ e 29 = .int .i64 l.length /\ e 30 = .int .i64 j /\ ∃ left' : Int,0 <= left' /\ left' <= 1000 /\ PtrTo H H2 p (.int .i64 left') /\ cntL l d (left - 1) = cntL (l.drop j) d left') (fun e H=>l.length - natOf (e 30)) ?_ ?_
          · exact ⟨0,Nat.zero_le _,gs,gs,gs,gs,rfl,left - 1,by omega,by omega,hPt,by simp⟩
          · clear hq hql hPt hp1 hb hsh H1
            rintro e H2 ⟨j,hj,e1,e2,e28,e29,e30,left',hl0,hl1,hPt,ha⟩ R hR
            repeat' (first | apply wz1|apply wz2|apply wz3|apply wz4|apply wz5|apply wz6 | simp -dsimp (maxSteps:=999999) (disch:=omega) only[go_sem,simprocAttr, *])
            refine wz7 (fun hb2=>?_) (fun hb2=>?_) <;> try simp -dsimp (maxSteps:=999999) (disch:=omega) only[go_sem,simprocAttr,decide_eq_true_eq,decide_eq_false_iff_not,Bool.not_eq_true,Bool.not_eq_false,Int.not_lt,Int.not_le] at hb2
            · rw [List.drop_eq_getElem_cons hb2] at ha
              simp only [cntL] at ha
              have hst2:=jaH (jaW l[j])
              have hkid:=jbq hok _ (List.getElem_mem hb2)
              have c1:=jbf l[j]
              have c2:=jb4 l[j]
              have c3:=jbw l[j]
              have hlt2:=jah hPt.at_
              have hlow : ∀ (L : List Ob),hget (H2 ++ L) p = .arr [.int .i64 left']:=fun L=>by rw [jac hlt2,hPt.at_]
              have ihj:=ih (by omega) l[j] hkid left' hl0 hl1
              have hcl:=jq9 l[j] d left' hl0
              obtain ⟨b,lf,hc⟩ : ∃ b lf,cntR l[j] d left' = (b,lf):=⟨_,_,rfl⟩
              rw [hc] at ha hcl
              simp only [hc] at ihj
              repeat' (first | apply wz1|apply wz2|apply wz3|apply wz4|apply wz5|apply wz6 | simp -dsimp (maxSteps:=999999) (disch:=omega) only[go_sem,simprocAttr, *])
              refine jag bo47 rfl rfl (ihj _ p (hlow _)) ?_ (fun _ _ h=>h.elim)
              rintro _ H3 ⟨rfl,hP3⟩
              have hP : PtrTo H H3 p (.int .i64 lf):=⟨by have:=hPt.len;have:=hP3.len;simp at this;omega,hP3.at_,fun k hk hne=>by
                have h1:=hPt.len
                rw [hP3.low k (by simp;omega) hne,jac (by omega),hPt.low k hk hne]⟩
              cases b with
              | false=>
                simp only [Bool.false_eq_true,if_false] at ha
                rw [ha]
                simp -dsimp (maxSteps:=999999) (disch:=omega) only[go_sem,simprocAttr, *]
                refine wz7 (fun hb3=>?_) (fun hb3=>?_) <;> try simp -dsimp (maxSteps:=999999) (disch:=omega) only[go_sem,simprocAttr,decide_eq_true_eq,decide_eq_false_iff_not,Bool.not_eq_true,Bool.not_eq_false,Int.not_lt,Int.not_le] at hb3
                repeat' (first | apply wz1|apply wz2|apply wz3|apply wz4|apply wz5|apply wz6 | simp -dsimp (maxSteps:=999999) (disch:=omega) only[go_sem,simprocAttr, *])
              | true=>
                simp only [if_true] at ha hcl
                simp -dsimp (maxSteps:=999999) (disch:=omega) only[go_sem,simprocAttr, *]
                refine wz7 (fun hb3=>?_) (fun hb3=>?_) <;> try simp -dsimp (maxSteps:=999999) (disch:=omega) only[go_sem,simprocAttr,decide_eq_true_eq,decide_eq_false_iff_not,Bool.not_eq_true,Bool.not_eq_false,Int.not_lt,Int.not_le] at hb3
                repeat' (first | apply wz1|apply wz2|apply wz3|apply wz4|apply wz5|apply wz6 | simp -dsimp (maxSteps:=999999) (disch:=omega) only[go_sem,simprocAttr, *])
                refine hR _ _ ⟨j + 1,by omega,gs,gs,gs,gs,gs,lf,hcl.2 trivial,by omega,hP,ha⟩ ?_
                simp -dsimp (maxSteps:=999999) (disch:=omega) only[go_sem,simprocAttr, *,jab]
            · rw [List.drop_eq_nil_of_le (by omega)] at ha
              rw [ha]
              repeat' (first | apply wz1|apply wz2|apply wz3|apply wz4|apply wz5|apply wz6 | simp -dsimp (maxSteps:=999999) (disch:=omega) only[go_sem,simprocAttr, *])
              exact ⟨rfl,hPt⟩
end Go.Proofs.W
end
section
namespace Go.Proofs.W
open Go Vm Go.Proofs.Zso
theorem jm0 {m : Nat} {d : D} {H : Heap} {l : List Int} (h : VecAt m d H (l.map (.int .i64))) (x : Int) (hl : l.length <= 1000000) : ∃ d' H',appendD Tryz.prog 23 (H ++ [Ob.arr [.int .i64 x]]) d (.vec H.length 0 1) = some (d',H') /\ VecAt m d' H' ((l ++ [x]).map (.int .i64)) /\ Same m H H':=by
  have:=VecAt.append el23 sz3 by3 zr3 rfl (by decide) h (q:=.int .i64 x) rfl rfl (jba l) (by simp;omega)
  simpa using this
end Go.Proofs.W
end
section
namespace Go.Proofs.W
open Go Vm Go.Proofs.Zso
def keyS : List Int -> List UInt8
  | []=>[]
  | s :: l=>UInt8.ofNat (s.toNat / 256) :: UInt8.ofNat (s.toNat % 256) :: keyS l
def small (l : List Int) : Prop:=∀ s ∈ l,0 <= s /\ s < 65536
theorem jjP {a b : Nat} (ha : a < 256) (hb : b < 256) (h : UInt8.ofNat a = UInt8.ofNat b) : a = b:=by
  have:=congrArg UInt8.toNat h
  simpa [UInt8.toNat_ofNat',Nat.mod_eq_of_lt ha,Nat.mod_eq_of_lt hb] using this
theorem jkO : ∀ {a b : List Int},small a -> small b -> keyS a = keyS b -> a = b
  | [],[],_,_,_=>rfl
  | [],_ :: _,_,_,h=>by simp [keyS] at h
  | _ :: _,[],_,_,h=>by simp [keyS] at h
  | x :: a,y :: b,ha,hb,h=>by
    simp only [keyS,List.cons.injEq] at h
    obtain ⟨h1,h2,h3⟩:=h
    have hx:=ha x (List.mem_cons_self ..)
    have hy:=hb y (List.mem_cons_self ..)
    have e1:=jjP (by omega) (by omega) h1
    have e2:=jjP (by omega) (by omega) h2
    have e3:=jkO (fun s hs=>ha s (List.mem_cons_of_mem _ hs)) (fun s hs=>hb s (List.mem_cons_of_mem _ hs)) h3
    have : x = y:=by omega
    rw [this,e3]
def ents : Nat -> List (List Int) -> List (D × D)
  | _,[]=>[]
  | i,l :: ls=>(.str (keyS l),.int .i64 i) :: ents (i + 1) ls
theorem jkz : ∀ (ls : List (List Int)) (i : Nat) (l : List Int),ents i (ls ++ [l]) = ents i ls ++ [(.str (keyS l),.int .i64 (i + ls.length : Nat))]
  | [],i,l=>by simp [ents]
  | q :: ls,i,l=>by
    simp only [List.cons_append,ents,jkz ls (i + 1) l,List.length_cons]
    rw [show i + 1 + ls.length = i + (ls.length + 1) by omega]
theorem jxS (a b : List UInt8) : eqSs (D.str a).cells (D.str b).cells = some (decide (a = b)):=by
  simp [D.cells,eqSs,eqS]
  by_cases h : a = b
  · simp [h]
  · simp [h]
def placeS (l : List Int) : Nat -> List (List Int) -> Option Nat
  | _,[]=>none
  | i,q :: ls=>if l = q then some i else placeS l (i + 1) ls
theorem jgA {l : List Int} : ∀ {ls : List (List Int)} {i j : Nat},placeS l i ls = some j -> i <= j
  | [],_,_,h=>by cases h
  | q :: ls,i,j,h=>by
    simp only [placeS] at h
    split at h
    · cases h;exact Nat.le_refl _
    · exact Nat.le_trans (Nat.le_succ _) (jgA h)
theorem jiv {l : List Int} (hl : small l) : ∀ (ls : List (List Int)) (i m : Nat),(∀ q ∈ ls,small q) -> findE (.str (keyS l)) (ents i ls) m = some ((placeS l i ls).map fun j=>(m + (j - i),.int .i64 j))
  | [],i,m,_=>rfl
  | q :: ls,i,m,h=>by
    have hq:=h q (List.mem_cons_self ..)
    have ih:=jiv hl ls (i + 1) (m + 1) (fun x hx=>h x (List.mem_cons_of_mem _ hx))
    simp only [ents,findE,aggQ,if_true,jxS,Option.bind_some,placeS]
    by_cases e : l = q
    · subst e;simp
    · have ek : keyS l ≠ keyS q:=fun hk=>e (jkO hl hq hk)
      simp only [ek,decide_false,Bool.false_eq_true,if_false,e,ih]
      congr 1
      cases hp : placeS l (i + 1) ls with
      | none=>rfl
      | some j=>
        have : i + 1 <= j:=jgA hp
        simp only [Option.map_some]
        rw [show m + 1 + (j - (i + 1)) = m + (j - i) by omega]
theorem jj3 {l : List Int} : ∀ {ls : List (List Int)} {i j : Nat},placeS l i ls = some j -> ls[j - i]? = some l
  | [],_,_,h=>by cases h
  | q :: ls,i,j,h=>by
    simp only [placeS] at h
    split at h
    · rename_i e;cases h;subst e;simp
    · have:=jgA h
      have ih:=jj3 h
      rw [show j - i = (j - (i + 1)) + 1 by omega]
      simpa using ih
def addS (ls : List (List Int)) (l : List Int) : Int × List (List Int):=if l = [] then (-1,ls) else match placeS l 0 ls with
  | some j=>(j,ls)
  | none=>(ls.length,ls ++ [l])
theorem jvM {ls : List (List Int)} {l : List Int} (h : l ≠ []) : ∃ j : Nat,(addS ls l).1 = j /\ (addS ls l).2[j]? = some l:=by
  unfold addS
  rw [if_neg h]
  cases hp : placeS l 0 ls with
  | some j=>exact ⟨j,rfl,by simpa using jj3 hp⟩
  | none=>exact ⟨ls.length,rfl,by simp⟩
theorem jjL {ls : List (List Int)} {l q : List Int} {j : Nat} (h : ls[j]? = some q) : (addS ls l).2[j]? = some q:=by
  have hj:=(List.getElem?_eq_some_iff.1 h).1
  unfold addS
  split
  · exact h
  · split
    · exact h
    · simpa [List.getElem?_append_left hj] using h
end Go.Proofs.W
end
section
namespace Go.Proofs.W
open Go Vm Go.Proofs.Zso
structure Nfa where
  free : List (List Int)
  set : List Int
  to : List Int
  rule : List Int
def u16D (l : List Int) : D:=.sl false (l.map (.int .u16))
def issD (l : List (List Int)) : D:=.sl false (l.map isD)
def nfaD (n : Nfa) : D:=.agg [issD n.free,u16D n.set,isD n.to,isD n.rule]
theorem jhs (l : List Int) : stripL (l.map (.int .u16)) = some (l.map (.int .u16)):=by
  induction l with
  | nil=>rfl
  | cons q r ih=>simp [stripL,ih,strip]
theorem jpc (l : List (List Int)) : stripL (l.map isD) = some (l.map isD):=by
  induction l with
  | nil=>rfl
  | cons q r ih=>simp [stripL,ih,jaJ]
theorem joG (l : List (List Int)) : strip (issD l) = some (issD l):=by simp [issD,strip,jpc]
theorem jn7 (l : List Int) : strip (u16D l) = some (u16D l):=by simp [u16D,strip,jhs]
theorem jdC (n : Nfa) : strip (nfaD n) = some (nfaD n):=by simp [nfaD,strip,stripL,joG,jn7,jaJ]
def isS (k : Nat) (s : Int) : Bool:=decide (0 <= s) && decide (s < k)
theorem isS_iff {k : Nat} {s : Int} : isS k s = true ↔ 0 <= s /\ s < k:=by simp [isS]
def rowOk (n : Nfa) (i : Nat) : Bool:=
  !(decide (n.set.getD i 0 ≠ 0) && !isS n.set.length (n.to.getD i 0)) && decide (-1 <= n.rule.getD i 0) && decide (n.rule.getD i 0 < 16) && (n.free.getD i []).all (isS n.set.length)
def rightN (n : Nfa) : Bool:=decide (1 <= n.set.length /\ n.set.length <= 3300 /\ n.free.length = n.set.length /\ n.to.length = n.set.length /\ n.rule.length = n.set.length) && allN (rowOk n) 0 n.set.length
theorem jck (s : Int) (k r : Nat) (H : Heap) (hg : hget H r = .arr [.int .i64 k]) : EvF Tryz.prog A 108 [.int .i64 s,.ptr r 0 0] H (fun d H'=>d = .bool (isS k s) /\ H' = H) (fun _ _=>False):=by
  refine jaj (n:=11) (rs:=[.tmp 3]) Tryz.func108 rfl rfl rfl rfl rfl rfl ?_
  by_cases h0 : 0 <= s
  · by_cases h1 : s < k
    · repeat' (first | apply wz1|apply wz2|apply wz3|apply wz4|apply wz5|apply wz6 | simp -dsimp (maxSteps:=999999) (disch:=omega) only[go_sem,simprocAttr, *,isS])
    · repeat' (first | apply wz1|apply wz2|apply wz3|apply wz4|apply wz5|apply wz6 | simp -dsimp (maxSteps:=999999) (disch:=omega) only[go_sem,simprocAttr, *,isS])
  · repeat' (first | apply wz1|apply wz2|apply wz3|apply wz4|apply wz5|apply wz6 | simp -dsimp (maxSteps:=999999) (disch:=omega) only[go_sem,simprocAttr, *,isS])
theorem jiL (n : Nfa) (hs : n.set.length <= 1000000) (hf : ∀ l ∈ n.free,l.length <= 1000000) : PureF Tryz.prog A 89 [nfaD n] (.bool (rightN n)):=by
  refine jaj (n:=91) (rs:=[.tmp 2]) Tryz.func89 rfl rfl rfl rfl rfl rfl ?_
  by_cases c1 : n.set.length = 0
  · have hz : rightN n = false:=by simp [rightN,c1]
    rw [hz]
    repeat' (first | apply wz1|apply wz2|apply wz3|apply wz4|apply wz5|apply wz6 | simp -dsimp (maxSteps:=999999) (disch:=omega) only[go_sem,simprocAttr, *,nfaD,u16D])
    refine wz7 (fun hb=>?_) (fun hb=>?_) <;> try simp -dsimp (maxSteps:=999999) (disch:=omega) only[go_sem,simprocAttr,decide_eq_true_eq,decide_eq_false_iff_not,Bool.not_eq_true,Bool.not_eq_false,Int.not_lt,Int.not_le] at hb
    repeat' (first | apply wz1|apply wz2|apply wz3|apply wz4|apply wz5|apply wz6 | simp -dsimp (maxSteps:=999999) (disch:=omega) only[go_sem,simprocAttr, *])
    try rfl
  by_cases c2 : n.set.length <= 3300
  case neg=>
    have hz : rightN n = false:=by simp [rightN,c2]
    rw [hz]
    repeat' (first | apply wz1|apply wz2|apply wz3|apply wz4|apply wz5|apply wz6 | simp -dsimp (maxSteps:=999999) (disch:=omega) only[go_sem,simprocAttr, *,nfaD,u16D])
    refine wz7 (fun hb=>?_) (fun hb=>?_) <;> try simp -dsimp (maxSteps:=999999) (disch:=omega) only[go_sem,simprocAttr,decide_eq_true_eq,decide_eq_false_iff_not,Bool.not_eq_true,Bool.not_eq_false,Int.not_lt,Int.not_le] at hb
    repeat' (first | apply wz1|apply wz2|apply wz3|apply wz4|apply wz5|apply wz6 | simp -dsimp (maxSteps:=999999) (disch:=omega) only[go_sem,simprocAttr, *])
    try rfl
  by_cases c3 : n.free.length = n.set.length
  case neg=>
    have hz : rightN n = false:=by simp [rightN,c3]
    rw [hz]
    repeat' (first | apply wz1|apply wz2|apply wz3|apply wz4|apply wz5|apply wz6 | simp -dsimp (maxSteps:=999999) (disch:=omega) only[go_sem,simprocAttr, *,nfaD,u16D,issD])
    refine wz7 (fun hb=>?_) (fun hb=>?_) <;> try simp -dsimp (maxSteps:=999999) (disch:=omega) only[go_sem,simprocAttr,decide_eq_true_eq,decide_eq_false_iff_not,Bool.not_eq_true,Bool.not_eq_false,Int.not_lt,Int.not_le] at hb
    repeat' (first | apply wz1|apply wz2|apply wz3|apply wz4|apply wz5|apply wz6 | simp -dsimp (maxSteps:=999999) (disch:=omega) only[go_sem,simprocAttr, *])
    try rfl
  by_cases c4 : n.to.length = n.set.length
  case neg=>
    have hz : rightN n = false:=by simp [rightN,c4]
    rw [hz]
    repeat' (first | apply wz1|apply wz2|apply wz3|apply wz4|apply wz5|apply wz6 | simp -dsimp (maxSteps:=999999) (disch:=omega) only[go_sem,simprocAttr, *,nfaD,u16D,issD,isD])
    refine wz7 (fun hb=>?_) (fun hb=>?_) <;> try simp -dsimp (maxSteps:=999999) (disch:=omega) only[go_sem,simprocAttr,decide_eq_true_eq,decide_eq_false_iff_not,Bool.not_eq_true,Bool.not_eq_false,Int.not_lt,Int.not_le] at hb
    repeat' (first | apply wz1|apply wz2|apply wz3|apply wz4|apply wz5|apply wz6 | simp -dsimp (maxSteps:=999999) (disch:=omega) only[go_sem,simprocAttr, *])
    try rfl
  by_cases c5 : n.rule.length = n.set.length
  case neg=>
    have hz : rightN n = false:=by simp [rightN,c5]
    rw [hz]
    repeat' (first | apply wz1|apply wz2|apply wz3|apply wz4|apply wz5|apply wz6 | simp -dsimp (maxSteps:=999999) (disch:=omega) only[go_sem,simprocAttr, *,nfaD,u16D,issD,isD])
    refine wz7 (fun hb=>?_) (fun hb=>?_) <;> try simp -dsimp (maxSteps:=999999) (disch:=omega) only[go_sem,simprocAttr,decide_eq_true_eq,decide_eq_false_iff_not,Bool.not_eq_true,Bool.not_eq_false,Int.not_lt,Int.not_le] at hb
    repeat' (first | apply wz1|apply wz2|apply wz3|apply wz4|apply wz5|apply wz6 | simp -dsimp (maxSteps:=999999) (disch:=omega) only[go_sem,simprocAttr, *])
    try rfl
  have hz : rightN n = allN (rowOk n) 0 n.set.length:=by simp [rightN,c2,c3,c4,c5];omega
  rw [hz]
  generalize hG : allN (rowOk n) 0 n.set.length = G
  clear hz
  repeat' (first | apply wz1|apply wz2|apply wz3|apply wz4|apply wz5|apply wz6 | simp -dsimp (maxSteps:=999999) (disch:=omega) only[go_sem,simprocAttr, *,nfaD,u16D,issD,isD])
  refine wz7 (fun hb=>?_) (fun hb=>?_) <;> try simp -dsimp (maxSteps:=999999) (disch:=omega) only[go_sem,simprocAttr,decide_eq_true_eq,decide_eq_false_iff_not,Bool.not_eq_true,Bool.not_eq_false,Int.not_lt,Int.not_le] at hb
  repeat' (first | apply wz1|apply wz2|apply wz3|apply wz4|apply wz5|apply wz6 | simp -dsimp (maxSteps:=999999) (disch:=omega) only[go_sem,simprocAttr, *,nfaD,u16D,issD,isD])
  let H0 : Heap:=[Ob.arr [nfaD n],Ob.arr [.int .i64 n.set.length]]
  refine jae (fun e H=>∃ j m : Nat,j + m = n.set.length /\ H = H0 /\ e 1 = .ptr 0 0 0 /\ e 3 = .ptr 1 0 0 /\ e 4 = .fn 108 [.ptr 1 0 0] /\ e 39 = .int .i64 n.set.length /\ e 40 = .int .i64 j /\ G = allN (rowOk n) j m) (fun e H=>n.set.length - natOf (e 40)) ?_ ?_
  · exact ⟨0,n.set.length,by omega,rfl,gs,gs,gs,gs,gs,hG.symm⟩
  clear hG
  rintro e H ⟨j,m,hj,rfl,e1,e3,e4,e39,e40,ha⟩ R hR
  simp only [H0]
  repeat' (first | apply wz1|apply wz2|apply wz3|apply wz4|apply wz5|apply wz6 | simp -dsimp (maxSteps:=999999) (disch:=omega) only[go_sem,simprocAttr, *,nfaD,u16D,issD,isD])
  refine wz7 (fun hb=>?_) (fun hb=>?_) <;> try simp -dsimp (maxSteps:=999999) (disch:=omega) only[go_sem,simprocAttr,decide_eq_true_eq,decide_eq_false_iff_not,Bool.not_eq_true,Bool.not_eq_false,Int.not_lt,Int.not_le] at hb
  · obtain ⟨m,rfl⟩ : ∃ x,m = x + 1:=⟨m - 1,by omega⟩
    obtain ⟨s,hs1,hs2⟩:=ex_at (l:=n.set) (i:=j) 0 (by omega)
    obtain ⟨t,ht1,ht2⟩:=ex_at (l:=n.to) (i:=j) 0 (by omega)
    obtain ⟨ru,hr1,hr2⟩:=ex_at (l:=n.rule) (i:=j) 0 (by omega)
    obtain ⟨fr,hf1,hf2⟩:=ex_at (l:=n.free) (i:=j) [] (by omega)
    have hrow : allN (rowOk n) j (m + 1) = ((!(decide (s ≠ 0) && !isS n.set.length t) && decide (-1 <= ru) && decide (ru < 16) && fr.all (isS n.set.length)) && allN (rowOk n) (j + 1) m):=by simp only [allN,rowOk,hs2,ht2,hr2,hf2]
    rw [hrow] at ha
    clear hrow hs2 ht2 hr2 hf2
    rcases (by by_cases hs0 : s = 0;exact .inl hs0;by_cases hi : isS n.set.length t = true;exact .inr (.inr ⟨hs0,hi⟩);exact .inr (.inl ⟨hs0,by simpa using hi⟩) : s = 0 ∨ (s ≠ 0 /\ isS n.set.length t = false) ∨ (s ≠ 0 /\ isS n.set.length t = true)) with hs0 | ⟨hs0,hi⟩ | ⟨hs0,hi⟩
    rotate_left
    · have : G = false:=by rw [ha,hi];simp [hs0]
      rw [this]
      clear ha this
      repeat' (first | apply wz1|apply wz2|apply wz3|apply wz4|apply wz5|apply wz6 | simp -dsimp (maxSteps:=999999) (disch:=omega) only[go_sem,simprocAttr, *,nfaD,u16D,issD,isD])
      refine jag bo108 rfl rfl (jck _ n.set.length _ _ rfl) ?_ (fun _ _ h=>h.elim)
      rintro d H' ⟨rfl,rfl⟩
      simp -dsimp (maxSteps:=999999) (disch:=omega) only[go_sem,simprocAttr, *]
      refine wz7 (fun hb2=>?_) (fun hb2=>?_) <;> try simp -dsimp (maxSteps:=999999) (disch:=omega) only[go_sem,simprocAttr,decide_eq_true_eq,decide_eq_false_iff_not,Bool.not_eq_true,Bool.not_eq_false,Int.not_lt,Int.not_le] at hb2
      repeat' (first | apply wz1|apply wz2|apply wz3|apply wz4|apply wz5|apply wz6 | simp -dsimp (maxSteps:=999999) (disch:=omega) only[go_sem,simprocAttr, *])
      try rfl
    · replace ha : G = ((decide (-1 <= ru) && decide (ru < 16) && fr.all (isS n.set.length)) && allN (rowOk n) (j + 1) m):=by rw [ha,hi];simp [hs0]
      rcases (by by_cases h1 : ru < -1;exact .inl h1;by_cases h2 : ru < 16;exact .inr (.inr ⟨h1,h2⟩);exact .inr (.inl ⟨h1,h2⟩) : ru < -1 ∨ (¬ ru < -1 /\ ¬ ru < 16) ∨ (¬ ru < -1 /\ ru < 16)) with h1 | ⟨h1,h2⟩ | ⟨h1,h2⟩
      · have hx : G = false:=by rw [ha];simp;omega
        rw [hx]
        clear ha hx
        repeat' (first | apply wz1|apply wz2|apply wz3|apply wz4|apply wz5|apply wz6 | simp -dsimp (maxSteps:=999999) (disch:=omega) only[go_sem,simprocAttr, *,nfaD,u16D,issD,isD])
        refine jag bo108 rfl rfl (jck _ n.set.length _ _ rfl) ?_ (fun _ _ h=>h.elim);rintro d H' ⟨rfl,rfl⟩;simp -dsimp (maxSteps:=999999) (disch:=omega) only[go_sem,simprocAttr, *]
        refine wz7 (fun hb2=>?_) (fun hb2=>?_) <;> try simp -dsimp (maxSteps:=999999) (disch:=omega) only[go_sem,simprocAttr,decide_eq_true_eq,decide_eq_false_iff_not,Bool.not_eq_true,Bool.not_eq_false,Int.not_lt,Int.not_le] at hb2
        repeat' (first | apply wz1|apply wz2|apply wz3|apply wz4|apply wz5|apply wz6 | simp -dsimp (maxSteps:=999999) (disch:=omega) only[go_sem,simprocAttr, *])
        try rfl
      · have hx : G = false:=by rw [ha];simp;omega
        rw [hx]
        clear ha hx
        repeat' (first | apply wz1|apply wz2|apply wz3|apply wz4|apply wz5|apply wz6 | simp -dsimp (maxSteps:=999999) (disch:=omega) only[go_sem,simprocAttr, *,nfaD,u16D,issD,isD])
        refine jag bo108 rfl rfl (jck _ n.set.length _ _ rfl) ?_ (fun _ _ h=>h.elim);rintro d H' ⟨rfl,rfl⟩;simp -dsimp (maxSteps:=999999) (disch:=omega) only[go_sem,simprocAttr, *]
        refine wz7 (fun hb2=>?_) (fun hb2=>?_) <;> try simp -dsimp (maxSteps:=999999) (disch:=omega) only[go_sem,simprocAttr,decide_eq_true_eq,decide_eq_false_iff_not,Bool.not_eq_true,Bool.not_eq_false,Int.not_lt,Int.not_le] at hb2
        repeat' (first | apply wz1|apply wz2|apply wz3|apply wz4|apply wz5|apply wz6 | simp -dsimp (maxSteps:=999999) (disch:=omega) only[go_sem,simprocAttr, *])
        try rfl
      · replace ha : G = (fr.all (isS n.set.length) && allN (rowOk n) (j + 1) m):=by rw [ha,show decide (-1 <= ru) = true by simp;omega,show decide (ru < 16) = true by simp;omega];rfl
        repeat' (first | apply wz1|apply wz2|apply wz3|apply wz4|apply wz5|apply wz6 | simp -dsimp (maxSteps:=999999) (disch:=omega) only[go_sem,simprocAttr, *,nfaD,u16D,issD,isD])
        refine jag bo108 rfl rfl (jck _ n.set.length _ _ rfl) ?_ (fun _ _ h=>h.elim);rintro d H' ⟨rfl,rfl⟩;simp -dsimp (maxSteps:=999999) (disch:=omega) only[go_sem,simprocAttr, *]
        refine wz7 (fun hb2=>?_) (fun hb2=>?_) <;> try simp -dsimp (maxSteps:=999999) (disch:=omega) only[go_sem,simprocAttr,decide_eq_true_eq,decide_eq_false_iff_not,Bool.not_eq_true,Bool.not_eq_false,Int.not_lt,Int.not_le] at hb2
        repeat' (first | apply wz1|apply wz2|apply wz3|apply wz4|apply wz5|apply wz6 | simp -dsimp (maxSteps:=999999) (disch:=omega) only[go_sem,simprocAttr, *,nfaD,u16D,issD,isD])
        have hfl : fr.length <= 1000000:=hf fr (List.mem_of_getElem? hf1)
        have hi0 : G = ((fr.drop 0).all (isS n.set.length) && allN (rowOk n) (j + 1) m):=ha
        clear ha
        refine jae (fun e H=>∃ i : Nat,i <= fr.length /\ H = H0 /\ e 1 = .ptr 0 0 0 /\ e 3 = .ptr 1 0 0 /\ e 4 = .fn 108 [.ptr 1 0 0] /\ e 39 = .int .i64 n.set.length /\ e 40 = .int .i64 j /\ e 79 = isD fr /\ e 80 = .int .i64 fr.length /\ e 81 = .int .i64 i /\ G = ((fr.drop i).all (isS n.set.length) && allN (rowOk n) (j + 1) m)) (fun e H=>fr.length - natOf (e 81)) ?_ ?_
        · exact ⟨0,Nat.zero_le _,rfl,gs,gs,gs,gs,gs,by simp -dsimp (maxSteps:=999999) (disch:=omega) only[go_sem,simprocAttr, *,isD],gs,gs,hi0⟩
        · clear hi0
          rintro e' H ⟨i,hi,rfl,e1,e3,e4,e39,e40,e79,e80,e81,ha⟩ R2 hR2
          simp only [H0]
          repeat' (first | apply wz1|apply wz2|apply wz3|apply wz4|apply wz5|apply wz6 | simp -dsimp (maxSteps:=999999) (disch:=omega) only[go_sem,simprocAttr, *])
          refine wz7 (fun hb3=>?_) (fun hb3=>?_) <;> try simp -dsimp (maxSteps:=999999) (disch:=omega) only[go_sem,simprocAttr,decide_eq_true_eq,decide_eq_false_iff_not,Bool.not_eq_true,Bool.not_eq_false,Int.not_lt,Int.not_le] at hb3
          · rw [jeV hb3] at ha
            repeat' (first | apply wz1|apply wz2|apply wz3|apply wz4|apply wz5|apply wz6 | simp -dsimp (maxSteps:=999999) (disch:=omega) only[go_sem,simprocAttr, *,isD])
            refine jag bo108 rfl rfl (jck _ n.set.length _ _ rfl) ?_ (fun _ _ h=>h.elim)
            rintro d H' ⟨rfl,rfl⟩
            cases hq : isS n.set.length fr[i] with
            | true=>
              rw [hq,Bool.true_and] at ha
              simp -dsimp (maxSteps:=999999) (disch:=omega) only[go_sem,simprocAttr, *]
              refine wz7 (fun hb4=>?_) (fun hb4=>?_) <;> try simp -dsimp (maxSteps:=999999) (disch:=omega) only[go_sem,simprocAttr,decide_eq_true_eq,decide_eq_false_iff_not,Bool.not_eq_true,Bool.not_eq_false,Int.not_lt,Int.not_le] at hb4
              repeat' (first | apply wz1|apply wz2|apply wz3|apply wz4|apply wz5|apply wz6 | simp -dsimp (maxSteps:=999999) (disch:=omega) only[go_sem,simprocAttr, *])
              refine hR2 _ _ ⟨i + 1,by omega,rfl,gs,gs,gs,gs,gs,gs,gs,gs,ha⟩ ?_
              simp -dsimp (maxSteps:=999999) (disch:=omega) only[go_sem,simprocAttr, *,jab]
            | false=>
              rw [hq,Bool.false_and,Bool.false_and] at ha
              rw [ha]
              simp -dsimp (maxSteps:=999999) (disch:=omega) only[go_sem,simprocAttr, *]
              refine wz7 (fun hb4=>?_) (fun hb4=>?_) <;> try simp -dsimp (maxSteps:=999999) (disch:=omega) only[go_sem,simprocAttr,decide_eq_true_eq,decide_eq_false_iff_not,Bool.not_eq_true,Bool.not_eq_false,Int.not_lt,Int.not_le] at hb4
              repeat' (first | apply wz1|apply wz2|apply wz3|apply wz4|apply wz5|apply wz6 | simp -dsimp (maxSteps:=999999) (disch:=omega) only[go_sem,simprocAttr, *])
              try rfl
          · rw [List.drop_eq_nil_of_le (by omega)] at ha
            have ha' : G = allN (rowOk n) (j + 1) m:=by rw [ha];rfl
            repeat' (first | apply wz1|apply wz2|apply wz3|apply wz4|apply wz5|apply wz6 | simp -dsimp (maxSteps:=999999) (disch:=omega) only[go_sem,simprocAttr, *])
            refine hR _ _ ⟨j + 1,m,by omega,rfl,gs,gs,gs,gs,gs,ha'⟩ ?_
            simp -dsimp (maxSteps:=999999) (disch:=omega) only[go_sem,simprocAttr, *,jab]
    · replace ha : G = ((decide (-1 <= ru) && decide (ru < 16) && fr.all (isS n.set.length)) && allN (rowOk n) (j + 1) m):=by rw [ha];simp [hs0]
      rcases (by by_cases h1 : ru < -1;exact .inl h1;by_cases h2 : ru < 16;exact .inr (.inr ⟨h1,h2⟩);exact .inr (.inl ⟨h1,h2⟩) : ru < -1 ∨ (¬ ru < -1 /\ ¬ ru < 16) ∨ (¬ ru < -1 /\ ru < 16)) with h1 | ⟨h1,h2⟩ | ⟨h1,h2⟩
      · have hx : G = false:=by rw [ha];simp;omega
        rw [hx]
        clear ha hx
        repeat' (first | apply wz1|apply wz2|apply wz3|apply wz4|apply wz5|apply wz6 | simp -dsimp (maxSteps:=999999) (disch:=omega) only[go_sem,simprocAttr, *,nfaD,u16D,issD,isD])
        refine wz7 (fun hb2=>?_) (fun hb2=>?_) <;> try simp -dsimp (maxSteps:=999999) (disch:=omega) only[go_sem,simprocAttr,decide_eq_true_eq,decide_eq_false_iff_not,Bool.not_eq_true,Bool.not_eq_false,Int.not_lt,Int.not_le] at hb2
        repeat' (first | apply wz1|apply wz2|apply wz3|apply wz4|apply wz5|apply wz6 | simp -dsimp (maxSteps:=999999) (disch:=omega) only[go_sem,simprocAttr, *])
        try rfl
      · have hx : G = false:=by rw [ha];simp;omega
        rw [hx]
        clear ha hx
        repeat' (first | apply wz1|apply wz2|apply wz3|apply wz4|apply wz5|apply wz6 | simp -dsimp (maxSteps:=999999) (disch:=omega) only[go_sem,simprocAttr, *,nfaD,u16D,issD,isD])
        refine wz7 (fun hb2=>?_) (fun hb2=>?_) <;> try simp -dsimp (maxSteps:=999999) (disch:=omega) only[go_sem,simprocAttr,decide_eq_true_eq,decide_eq_false_iff_not,Bool.not_eq_true,Bool.not_eq_false,Int.not_lt,Int.not_le] at hb2
        repeat' (first | apply wz1|apply wz2|apply wz3|apply wz4|apply wz5|apply wz6 | simp -dsimp (maxSteps:=999999) (disch:=omega) only[go_sem,simprocAttr, *])
        try rfl
      · replace ha : G = (fr.all (isS n.set.length) && allN (rowOk n) (j + 1) m):=by rw [ha,show decide (-1 <= ru) = true by simp;omega,show decide (ru < 16) = true by simp;omega];rfl
        repeat' (first | apply wz1|apply wz2|apply wz3|apply wz4|apply wz5|apply wz6 | simp -dsimp (maxSteps:=999999) (disch:=omega) only[go_sem,simprocAttr, *,nfaD,u16D,issD,isD])
        refine wz7 (fun hb2=>?_) (fun hb2=>?_) <;> try simp -dsimp (maxSteps:=999999) (disch:=omega) only[go_sem,simprocAttr,decide_eq_true_eq,decide_eq_false_iff_not,Bool.not_eq_true,Bool.not_eq_false,Int.not_lt,Int.not_le] at hb2
        repeat' (first | apply wz1|apply wz2|apply wz3|apply wz4|apply wz5|apply wz6 | simp -dsimp (maxSteps:=999999) (disch:=omega) only[go_sem,simprocAttr, *,nfaD,u16D,issD,isD])
        have hfl : fr.length <= 1000000:=hf fr (List.mem_of_getElem? hf1)
        have hi0 : G = ((fr.drop 0).all (isS n.set.length) && allN (rowOk n) (j + 1) m):=ha
        clear ha
        refine jae (fun e H=>∃ i : Nat,i <= fr.length /\ H = H0 /\ e 1 = .ptr 0 0 0 /\ e 3 = .ptr 1 0 0 /\ e 4 = .fn 108 [.ptr 1 0 0] /\ e 39 = .int .i64 n.set.length /\ e 40 = .int .i64 j /\ e 79 = isD fr /\ e 80 = .int .i64 fr.length /\ e 81 = .int .i64 i /\ G = ((fr.drop i).all (isS n.set.length) && allN (rowOk n) (j + 1) m)) (fun e H=>fr.length - natOf (e 81)) ?_ ?_
        · exact ⟨0,Nat.zero_le _,rfl,gs,gs,gs,gs,gs,by simp -dsimp (maxSteps:=999999) (disch:=omega) only[go_sem,simprocAttr, *,isD],gs,gs,hi0⟩
        · clear hi0
          rintro e' H ⟨i,hi,rfl,e1,e3,e4,e39,e40,e79,e80,e81,ha⟩ R2 hR2
          simp only [H0]
          repeat' (first | apply wz1|apply wz2|apply wz3|apply wz4|apply wz5|apply wz6 | simp -dsimp (maxSteps:=999999) (disch:=omega) only[go_sem,simprocAttr, *])
          refine wz7 (fun hb3=>?_) (fun hb3=>?_) <;> try simp -dsimp (maxSteps:=999999) (disch:=omega) only[go_sem,simprocAttr,decide_eq_true_eq,decide_eq_false_iff_not,Bool.not_eq_true,Bool.not_eq_false,Int.not_lt,Int.not_le] at hb3
          · rw [jeV hb3] at ha
            repeat' (first | apply wz1|apply wz2|apply wz3|apply wz4|apply wz5|apply wz6 | simp -dsimp (maxSteps:=999999) (disch:=omega) only[go_sem,simprocAttr, *,isD])
            refine jag bo108 rfl rfl (jck _ n.set.length _ _ rfl) ?_ (fun _ _ h=>h.elim)
            rintro d H' ⟨rfl,rfl⟩
            cases hq : isS n.set.length fr[i] with
            | true=>
              rw [hq,Bool.true_and] at ha
              simp -dsimp (maxSteps:=999999) (disch:=omega) only[go_sem,simprocAttr, *]
              refine wz7 (fun hb4=>?_) (fun hb4=>?_) <;> try simp -dsimp (maxSteps:=999999) (disch:=omega) only[go_sem,simprocAttr,decide_eq_true_eq,decide_eq_false_iff_not,Bool.not_eq_true,Bool.not_eq_false,Int.not_lt,Int.not_le] at hb4
              repeat' (first | apply wz1|apply wz2|apply wz3|apply wz4|apply wz5|apply wz6 | simp -dsimp (maxSteps:=999999) (disch:=omega) only[go_sem,simprocAttr, *])
              refine hR2 _ _ ⟨i + 1,by omega,rfl,gs,gs,gs,gs,gs,gs,gs,gs,ha⟩ ?_
              simp -dsimp (maxSteps:=999999) (disch:=omega) only[go_sem,simprocAttr, *,jab]
            | false=>
              rw [hq,Bool.false_and,Bool.false_and] at ha
              rw [ha]
              simp -dsimp (maxSteps:=999999) (disch:=omega) only[go_sem,simprocAttr, *]
              refine wz7 (fun hb4=>?_) (fun hb4=>?_) <;> try simp -dsimp (maxSteps:=999999) (disch:=omega) only[go_sem,simprocAttr,decide_eq_true_eq,decide_eq_false_iff_not,Bool.not_eq_true,Bool.not_eq_false,Int.not_lt,Int.not_le] at hb4
              repeat' (first | apply wz1|apply wz2|apply wz3|apply wz4|apply wz5|apply wz6 | simp -dsimp (maxSteps:=999999) (disch:=omega) only[go_sem,simprocAttr, *])
              try rfl
          · rw [List.drop_eq_nil_of_le (by omega)] at ha
            have ha' : G = allN (rowOk n) (j + 1) m:=by rw [ha];rfl
            repeat' (first | apply wz1|apply wz2|apply wz3|apply wz4|apply wz5|apply wz6 | simp -dsimp (maxSteps:=999999) (disch:=omega) only[go_sem,simprocAttr, *])
            refine hR _ _ ⟨j + 1,m,by omega,rfl,gs,gs,gs,gs,gs,ha'⟩ ?_
            simp -dsimp (maxSteps:=999999) (disch:=omega) only[go_sem,simprocAttr, *,jab]
  · obtain rfl : m = 0:=by omega
    have : G = true:=ha
    rw [this]
    repeat' (first | apply wz1|apply wz2|apply wz3|apply wz4|apply wz5|apply wz6 | simp -dsimp (maxSteps:=999999) (disch:=omega) only[go_sem,simprocAttr, *])
    try rfl
end Go.Proofs.W
end
section
namespace Go.Proofs.W
open Go Vm Go.Proofs.Zso
end Go.Proofs.W
end
section
namespace Go.Proofs.W
open Go Vm Go.Proofs.Zso
def tabD (k : Nat) (p : Nat -> Bool) : List D:=(List.range k).map fun i=>.bool (p i)
theorem jcK {k : Nat} {p : Nat -> Bool} : (tabD k p).length = k:=by simp [tabD]
theorem jfx {k : Nat} {p : Nat -> Bool} {i : Nat} (h : i < k) : (tabD k p)[i]? = some (.bool (p i)):=by simp [tabD,h]
theorem jtc {k : Nat} {p : Nat -> Bool} {x : Nat} {b : Bool} (h : x < k) : (tabD k p).set x (.bool b) = tabD k fun i=>if i = x then b else p i:=by
  refine List.ext_getElem? fun i=>?_
  rw [List.getElem?_set]
  by_cases hi : i < k
  · rw [jfx hi,jcK]
    by_cases hx : x = i
    · subst hx;simp [h,tabD]
    · rw [if_neg hx,jfx hi,if_neg (fun e=>hx e.symm)]
  · rw [List.getElem?_eq_none (by rw [jcK];omega : (tabD k p).length <= i),List.getElem?_eq_none (by rw [jcK];omega)]
    rw [if_neg (by omega)]
theorem jqh (k : Nat) (p : Nat -> Bool) : headSize 1 (tabD k p) = true:=by
  unfold tabD
  cases List.range k <;> rfl
theorem jmU {k : Nat} {H : Heap} (h1 : 1 <= k) (h2 : k <= 1000000) : makeSliceD Tryz.prog 77 (.int .i64 k) (.int .i64 k) H = some (.vec H.length 0 k,H ++ [.arr (tabD k fun _=>false)]):=by
  have h0 : List.replicate k (D.bool false) = tabD k fun _=>false:=by
    refine List.ext_getElem? fun i=>?_
    by_cases hi : i < k
    · rw [jfx hi];simp [hi]
    · rw [List.getElem?_eq_none (by simpa using hi),List.getElem?_eq_none (by rw [jcK];omega)]
  simp only [makeSliceD,el77,sz4,by4,zr4,Option.bind_some,Int.toNat_natCast,h0]
  rw [if_pos ⟨by omega,by omega,by simp [mostBytes];omega,by omega,rfl⟩,if_neg (by omega)]
theorem jtx {k : Nat} {p : Nat -> Bool} (hk : 1 <= k) : vecO (.arr (tabD k p)) 1 = true:=jcE (fun h0=>by have:=congrArg List.length h0;rw [jcK] at this;simp at this;omega) (jqh k p)
attribute [go_sem] jcK jfx jtc jmU jq3 jtx
end Go.Proofs.W
end
section
namespace Go.Proofs.W
end Go.Proofs.W
end
section
namespace Go.Proofs.W
open Go Vm Go.Proofs.Zso
mutual
def sizeR : Rx -> Nat
  | .mk _ _ l=>sizeL l + 1
def sizeL : List Rx -> Nat
  | []=>0
  | r :: l=>sizeR r + sizeL l
end
theorem jaG (r : Rx) : 0 < sizeR r:=by cases r;simp [sizeR]
mutual
theorem jqk : ∀ (r : Rx) (d : Nat) (left : Int),0 <= left -> ((cntR r d left).1 = true ↔ (sizeR r : Int) <= left /\ depth r <= d /\ shapesR r = true) /\ ((cntR r d left).1 = true -> (cntR r d left).2 = left - sizeR r)
  | .mk k s l,d,left,h=>by
    simp only [cntR,sizeR,depth,shapesR,Bool.and_eq_true]
    by_cases h1 : left - 1 < 0
    · rw [if_pos (.inl h1)]
      simp only [Bool.false_eq_true,false_iff,false_implies,and_true,not_and]
      omega
    by_cases h2 : d = 0
    · rw [if_pos (.inr (.inl h2))]
      simp only [Bool.false_eq_true,false_iff,false_implies,and_true,not_and]
      omega
    by_cases h3 : shape1 k s l.length = false
    · rw [if_pos (.inr (.inr h3))]
      simp [h3]
    · rw [if_neg (by simp [h1,h2,h3])]
      have:=jmM l (d - 1) (left - 1) (by omega)
      simp only [Bool.not_eq_false] at h3
      simp only [h3,true_and]
      refine ⟨this.1.trans ⟨fun ⟨a,b,c⟩=>⟨by omega,by omega,c⟩,fun ⟨a,b,c⟩=>⟨by omega,by omega,c⟩⟩,fun h=>?_⟩
      rw [this.2 h];omega
theorem jmM : ∀ (l : List Rx) (d : Nat) (left : Int),0 <= left -> ((cntL l d left).1 = true ↔ (sizeL l : Int) <= left /\ depthL l <= d /\ shapesL l = true) /\ ((cntL l d left).1 = true -> (cntL l d left).2 = left - sizeL l)
  | [],d,left,h=>by simp [cntL,sizeL,depthL,shapesL,h]
  | r :: l,d,left,h=>by
    simp only [cntL,sizeL,depthL,shapesL,Bool.and_eq_true]
    have h1:=jqk r d left h
    cases hc : (cntR r d left).1 with
    | false=>
      rw [hc] at h1
      simp only [Bool.false_eq_true,false_iff,false_implies,and_true,if_false,not_and] at h1 ⊢
      intro ha hb hs
      exact absurd hs (h1 (by omega) (by omega))
    | true=>
      rw [hc] at h1
      simp only [true_iff,if_true,forall_const] at h1 ⊢
      have h2:=jmM l d (cntR r d left).2 (by omega)
      rw [h1.2] at h2 ⊢
      refine ⟨h2.1.trans ⟨fun ⟨a,b,c⟩=>⟨by omega,by omega,h1.1.2.2,c⟩,fun ⟨a,b,c⟩=>⟨by omega,by omega,c.2⟩⟩,fun h=>?_⟩
      rw [h2.2 h];omega
end
mutual
theorem jc2 : ∀ r : Rx,nodesR r <= 100 ↔ sizeR r <= 100
  | .mk k s l=>by
    simp only [nodesR,sizeR]
    have:=jgf l 1 (by omega)
    omega
theorem jgf : ∀ (l : List Rx) (n : Nat),1 <= n -> (nodesL n l <= 100 ↔ n + sizeL l <= 100)
  | [],n,h=>by simp [nodesL,sizeL]
  | r :: l,n,h=>by
    simp only [nodesL,sizeL]
    have h1:=jc2 r
    have hp:=jaG r
    split
    · have h2:=jgf l (n + nodesR r) (by omega)
      rw [h2]
      have h3:=jfU r
      omega
    · omega
theorem jfU : ∀ r : Rx,(sizeR r <= 100 -> nodesR r = sizeR r) /\ (100 < sizeR r -> 100 < nodesR r)
  | .mk k s l=>by
    simp only [nodesR,sizeR]
    have:=je4 l 1 (by omega)
    exact ⟨fun h=>by have:=this.1 (by omega);omega,fun h=>by have:=this.2 (by omega);omega⟩
theorem je4 : ∀ (l : List Rx) (n : Nat),1 <= n -> (n + sizeL l <= 100 -> nodesL n l = n + sizeL l) /\ (100 < n + sizeL l -> 100 < nodesL n l)
  | [],n,h=>by simp [nodesL,sizeL]
  | r :: l,n,h=>by
    simp only [nodesL,sizeL]
    have h1:=jfU r
    have hp:=jaG r
    split
    · rename_i hn
      have h2:=je4 l (n + nodesR r) (by omega)
      refine ⟨fun ha=>?_,fun ha=>?_⟩
      · have e1:=h1.1 (by omega)
        rw [e1] at h2 ⊢
        have:=h2.1 (by omega);omega
      · rcases Nat.lt_or_ge 100 (sizeR r) with hb | hb
        · have:=h1.2 hb
          exact h2.2 (by omega)
        · have e1:=h1.1 hb
          rw [e1] at h2 ⊢
          exact h2.2 (by omega)
    · exact ⟨fun ha=>by omega,fun ha=>by omega⟩
end
theorem jpW (r : Rx) : (cntR r 12 100).1 = rightR r:=by
  have h:=(jqk r 12 100 (by omega)).1
  have hn:=jc2 r
  unfold rightR
  rw [Bool.eq_iff_iff,h]
  simp only [Bool.and_eq_true,decide_eq_true_eq]
  constructor
  · rintro ⟨a,b,c⟩;exact ⟨⟨b,by omega⟩,c⟩
  · rintro ⟨⟨a,b⟩,c⟩;exact ⟨by omega,a,c⟩
theorem je2 (r : Rx) (hr : okR r) : PureF Tryz.prog A 30 [rxD r] (.bool (rightR r)):=by
  rw [<- jpW]
  have hc:=jtJ 12 (by omega) r hr 100 (by omega) (by omega)
  have c1:=jbf r
  have c2:=jb4 r
  have c3:=jbw r
  refine jaj (n:=6) (rs:=[.tmp 2]) Tryz.func30 rfl rfl rfl rfl rfl rfl ?_
  generalize rxD r = d at *
  have hc1 : EvF Tryz.prog A 47 [d,.int .i64 12,.ptr 1 0 0] [Ob.arr [d],Ob.arr [.int .i64 100]] (fun x H'=>x = .bool (cntR r 12 100).1 /\ PtrTo [Ob.arr [d],Ob.arr [.int .i64 100]] H' 1 (.int .i64 (cntR r 12 100).2)) (fun _ _=>False):=hc _ 1 rfl
  repeat' (first | apply wz1|apply wz2|apply wz3|apply wz4|apply wz5|apply wz6 | simp -dsimp (maxSteps:=999999) (disch:=omega) only[go_sem,simprocAttr, *])
  refine jag bo47 rfl rfl hc1 ?_ (fun _ _ h=>h.elim)
  rintro _ H' ⟨rfl,hP⟩
  simp -dsimp (maxSteps:=999999) (disch:=omega) only[go_sem,simprocAttr, *]
  repeat' (first | apply wz1|apply wz2|apply wz3|apply wz4|apply wz5|apply wz6 | simp -dsimp (maxSteps:=999999) (disch:=omega) only[go_sem,simprocAttr, *])
def emptyR : Rx -> Bool
  | .mk k _ l=>if k = 1 then false else if k = 2 then emptyAll l else if k = 3 then emptyAny l else true
where
  emptyAll : List Rx -> Bool
  | []=>true
  | r :: l=>emptyR r && emptyAll l
  emptyAny : List Rx -> Bool
  | []=>false
  | r :: l=>emptyR r || emptyAny l
end Go.Proofs.W
end
section
namespace Go.Proofs.W
end Go.Proofs.W
end
section
namespace Go.Proofs.W
open Go Vm Go.Proofs.Zso
def bsD (l : List Bool) : List D:=l.map .bool
def bitZ (s c : Int) : Bool:=IntKind.u16.wrap (BitVec.ofInt IntKind.u16.bits (s.fdiv (2 ^ (min c.toNat IntKind.u16.bits))) &&& BitVec.ofInt IntKind.u16.bits 1).toNat == 1
def inB (s c : Int) : Bool:=decide (0 <= c) && decide (c < 16) && bitZ s c
def stepB (s : Int) (w : List Int) (fl : List Bool) : List Bool:=false :: List.zipWith (fun b c=>b && inB s c) fl w
def orB (a b : List Bool) : List Bool:=List.zipWith (· || ·) a b
def roundsB (f : List Bool -> List Bool) (one : Bool) : Nat -> List Bool -> List Bool
  | 0,l=>l
  | n + 1,l=>if one = true ∨ orB l (f l) = l then orB l (f l) else roundsB f one n (orB l (f l))
mutual
def endsR (w : List Int) : Rx -> List Bool -> List Bool
  | .mk k s l, fl => if k = 0 then fl else if k = 1 then stepB s w fl else if k = 2 then endsCat w l fl else if k = 3 then endsAlt w l fl (List.replicate (w.length + 1) false)
      else if k = 4 ∨ k = 5 then roundsB (endsOne w l) (k == 5) (w.length + 1) fl else List.replicate (w.length + 1) false
def endsCat (w : List Int) : List Rx -> List Bool -> List Bool
  | [],fl=>fl
  | r :: l,fl=>endsCat w l (endsR w r fl)
def endsAlt (w : List Int) : List Rx -> List Bool -> List Bool -> List Bool
  | [],_,acc=>acc
  | r :: l,fl,acc=>endsAlt w l fl (orB acc (endsR w r fl))
def endsOne (w : List Int) : List Rx -> List Bool -> List Bool
  | [],fl=>fl
  | r :: _,fl=>endsR w r fl
end
theorem ja6 {a b : List Bool} {n : Nat} (h : a.length = n) (g : b.length = n) : (orB a b).length = n:=by simp [orB,h,g]
theorem jhu {f : List Bool -> List Bool} {n : Nat} (hf : ∀ l,l.length = n -> (f l).length = n) {one : Bool} : ∀ (m : Nat) (l : List Bool),l.length = n -> (roundsB f one m l).length = n
  | 0,l,h=>h
  | m + 1,l,h=>by
    simp only [roundsB]
    have:=ja6 h (hf l h)
    split
    · exact this
    · exact jhu hf m _ this
mutual
theorem jaB (w : List Int) : ∀ (r : Rx) (fl : List Bool),fl.length = w.length + 1 -> (endsR w r fl).length = w.length + 1
  | .mk k s l,fl,h=>by
    simp only [endsR]
    split
    · exact h
    split
    · simp [stepB,h]
    split
    · exact jf0 w l fl h
    split
    · exact jf9 w l fl _ h (by simp)
    split
    · exact jhu (fun x hx=>jge w l x hx) _ fl h
    · simp
theorem jf0 (w : List Int) : ∀ (l : List Rx) (fl : List Bool),fl.length = w.length + 1 -> (endsCat w l fl).length = w.length + 1
  | [],fl,h=>h
  | r :: l,fl,h=>jf0 w l _ (jaB w r fl h)
theorem jf9 (w : List Int) : ∀ (l : List Rx) (fl acc : List Bool),fl.length = w.length + 1 -> acc.length = w.length + 1 -> (endsAlt w l fl acc).length = w.length + 1
  | [],fl,acc,h,g=>g
  | r :: l,fl,acc,h,g=>jf9 w l fl _ h (ja6 g (jaB w r fl h))
theorem jge (w : List Int) : ∀ (l : List Rx) (fl : List Bool),fl.length = w.length + 1 -> (endsOne w l fl).length = w.length + 1
  | [],fl,h=>h
  | r :: _,fl,h=>jaB w r fl h
end
theorem jau {H : Heap} {q : Nat} {l : List Bool} (h : hget H q = .arr (bsD l)) (hl : 0 < l.length) : vecSize H q 1 = true:=by
  refine jep h ?_ ?_
  · cases l with
    | nil=>simp at hl
    | cons b l=>simp [bsD]
  · cases l <;> rfl
theorem bs_at {l : List Bool} {i : Nat} (h : i < l.length) : (bsD l)[i]? = some (.bool l[i]):=by simp [bsD,h]
theorem jbI {l : List Bool} {i : Nat} {b : Bool} : (bsD l).set i (.bool b) = bsD (l.set i b):=by simp [bsD,List.map_set]
theorem jk8 {l : List Bool} : (bsD l).length = l.length:=by simp [bsD]
theorem jgt {n : Int} {H : Heap} (h0 : 0 < n) (h1 : n <= 1000000) : makeSliceD Tryz.prog 77 (.int .i64 n) (.int .i64 n) H = some (.vec H.length 0 n.toNat,H ++ [Ob.arr (bsD (List.replicate n.toNat false))]):=by
  simp only [makeSliceD,el77,sz77,sz4,by4,zr4,Option.bind_some]
  have hcond : 0 <= n /\ n <= n /\ n.toNat * 1 <= mostBytes /\ n < 2 ^ 62 /\ (D.bool false).cells.length = 1:=⟨by omega,Int.le_refl _,by simp only [mostBytes];omega,by omega,rfl⟩
  rw [if_pos hcond,if_neg (by omega)]
  simp [bsD]
def stepL (s : Int) (w : List Int) (fl : List Bool) (j : Nat) : List Bool:=(stepB s w fl).take (j + 1) ++ List.replicate (w.length - j) false
theorem jqd {s : Int} {w : List Int} {fl : List Bool} (h : fl.length = w.length + 1) (j : Nat) (hj : j <= w.length) : (stepL s w fl j).length = w.length + 1:=by simp [stepL,stepB,h];omega
theorem jop {s : Int} {w : List Int} {fl : List Bool} (h : fl.length = w.length + 1) : stepL s w fl 0 = List.replicate (w.length + 1) false:=by simp [stepL,stepB,List.replicate_succ]
theorem jrr {s : Int} {w : List Int} {fl : List Bool} (h : fl.length = w.length + 1) : stepL s w fl w.length = stepB s w fl:=by
  simp only [stepL,Nat.sub_self,List.replicate_zero,List.append_nil]
  exact List.take_of_length_le (by simp [stepB,h])
theorem joy {s : Int} {w : List Int} {fl : List Bool} (h : fl.length = w.length + 1) {j : Nat} (hj : j < w.length) : stepL s w fl (j + 1) = (stepL s w fl j).set (j + 1) (fl[j] && inB s w[j]):=by
  have hS : (stepB s w fl)[j + 1]? = some (fl[j] && inB s w[j]):=by
    simp only [stepB,List.getElem?_cons_succ]
    rw [List.getElem?_zipWith,List.getElem?_eq_getElem (by omega),List.getElem?_eq_getElem hj]
  have hlen : ((stepB s w fl).take (j + 1)).length = j + 1:=by simp [stepB,h];omega
  unfold stepL
  rw [List.take_add_one (i:=j + 1),hS,show w.length - j = (w.length - (j + 1)) + 1 by omega,List.replicate_succ,List.set_append_right _ _ (by omega),hlen,Nat.sub_self]
  simp
theorem jc7 {s : Int} {w : List Int} {fl : List Bool} (h : fl.length = w.length + 1) {j : Nat} (hj : j < w.length) : (stepL s w fl j).set (j + 1) false = stepL s w fl j:=by
  have hlen : ((stepB s w fl).take (j + 1)).length = j + 1:=by simp [stepB,h];omega
  unfold stepL
  rw [show w.length - j = (w.length - (j + 1)) + 1 by omega,List.replicate_succ,List.set_append_right _ _ (by omega),hlen,Nat.sub_self]
  simp
def orL (a x : List Bool) (i : Nat) : List Bool:=(orB a x).take i ++ a.drop i
theorem jgm {a x : List Bool} : orL a x 0 = a:=by simp [orL]
theorem jhM {a x : List Bool} {n : Nat} (h : a.length = n) (g : x.length = n) : orL a x n = orB a x:=by
  simp only [orL]
  rw [List.take_of_length_le (by rw [ja6 h g];omega),List.drop_eq_nil_of_le (by omega),List.append_nil]
theorem jhT {a x : List Bool} {n i : Nat} (h : a.length = n) (g : x.length = n) (hi : i <= n) : (orL a x i).length = n:=by
  simp [orL,ja6 h g,h];omega
theorem jkS {a x : List Bool} {n i : Nat} (h : a.length = n) (g : x.length = n) (hi : i < n) : (orL a x i)[i]? = some a[i]:=by
  have hl : ((orB a x).take i).length = i:=by simp [ja6 h g];omega
  simp only [orL]
  rw [List.getElem?_append_right (by omega),hl,Nat.sub_self,List.getElem?_drop,Nat.add_zero,List.getElem?_eq_getElem (by omega)]
theorem jgI {a x : List Bool} {n i : Nat} (h : a.length = n) (g : x.length = n) (hi : i < n) : orL a x (i + 1) = (orL a x i).set i (a[i] || x[i]):=by
  have hl : ((orB a x).take i).length = i:=by simp [ja6 h g];omega
  have hx : (orB a x)[i]? = some (a[i] || x[i]):=by
    simp only [orB]
    rw [List.getElem?_zipWith,List.getElem?_eq_getElem (by omega),List.getElem?_eq_getElem (by omega)]
  simp only [orL]
  rw [List.take_add_one,hx,List.set_append_right _ _ (by omega),hl,Nat.sub_self,List.drop_eq_getElem_cons (show i < a.length by omega),List.set_cons_zero]
  simp only [Option.toList_some,List.append_assoc,List.cons_append,List.nil_append]
def moreL (a x : List Bool) : Nat -> Bool
  | 0=>false
  | i + 1=>moreL a x i || (x.getD i false && !a.getD i false)
theorem jjc {a x : List Bool} {n : Nat} (h : a.length = n) (g : x.length = n) : moreL a x n = false ↔ orB a x = a:=by
  have key : ∀ i,moreL a x i = false ↔ ∀ j,j < i -> (x.getD j false && !a.getD j false) = false:=by
    intro i
    induction i with
    | zero=>simp [moreL]
    | succ i ih=>
      simp only [moreL,Bool.or_eq_false_iff,ih]
      constructor
      · rintro ⟨h1,h2⟩ j hj
        rcases Nat.lt_succ_iff_lt_or_eq.1 hj with hj | rfl
        · exact h1 j hj
        · exact h2
      · exact fun h=>⟨fun j hj=>h j (by omega),h i (by omega)⟩
  rw [key]
  constructor
  · intro hh
    apply List.ext_getElem (by rw [ja6 h g,h])
    intro j h1 h2
    have:=hh j (by omega)
    simp only [List.getD,List.getElem?_eq_getElem (show j < x.length by omega),List.getElem?_eq_getElem h2,Option.getD_some] at this
    simp only [orB,List.getElem_zipWith]
    cases hx : x[j] <;> cases ha : a[j] <;> simp_all
  · intro hh j hj
    have h2 : (orB a x)[j]'(by rw [ja6 h g];omega) = a[j]:=by simp only [hh]
    simp only [orB,List.getElem_zipWith] at h2
    simp only [List.getD,List.getElem?_eq_getElem (show j < x.length by omega),List.getElem?_eq_getElem (show j < a.length by omega),Option.getD_some]
    cases hx : x[j] <;> cases ha : a[j] <;> simp_all
def EndsQ (H : Heap) (n : Nat) (l : List Bool) (d : D) (H' : Heap) : Prop:=Same H.length H H' /\ ∃ p,H.length <= p /\ d = .vec p 0 n /\ hget H' p = .arr (bsD l)
structure St (H0 H : Heap) (m q : Nat) (R : D) (fl : List Bool) : Prop where
  same : Same m H0 H
  rx : hget H m = .arr [R]
  fr : hget H q = .arr (bsD fl)
  lt : q < m
theorem St.set {H0 H : Heap} {m q p : Nat} {R : D} {fl : List Bool} {ob : Ob} (h : St H0 H m q R fl) (hp : m < p) : St H0 (H.set p ob) m q R fl:=
  ⟨h.same.trans (Same.set (by omega)),by rw [jaa (by omega)];exact h.rx,by have:=h.lt;rw [jaa (by omega)];exact h.fr,h.lt⟩
theorem St.call {H0 H H' : Heap} {m q : Nat} {R : D} {fl : List Bool} (h : St H0 H m q R fl) (g : Same H.length H H') : St H0 H' m q R fl:=by
  have h1:=jah h.rx
  have h2:=h.lt
  exact ⟨h.same.trans (g.le (by omega)),by rw [g.2 m h1];exact h.rx,by rw [g.2 q (by omega)];exact h.fr,h.lt⟩
theorem take_set {α : Type} {L F : List α} {j : Nat} {x : α} (hL : j < L.length) (h : L.take j = F.take j) (hx : F[j]? = some x) : (L.set j x).take (j + 1) = F.take (j + 1):=by
  rw [List.take_add_one,List.take_add_one,List.take_set,h,hx]
  have : (L.set j x)[j]? = some x:=by simp [hL]
  rw [this]
  rw [List.set_eq_of_length_le (by simp;omega)]
theorem jvW (w : List Int) (hw : w.length <= 1000) : ∀ (d : Nat) (r : Rx) (hr : okR r) (hd : depth r <= d) (hs : shapesR r = true) (fl : List Bool) (hfl : fl.length = w.length + 1) (H : Heap) (q : Nat) (hq : hget H q = .arr (bsD fl)),
    EvF Tryz.prog A 23 [rxD r,isD w,.vec q 0 (w.length + 1)] H (EndsQ H (w.length + 1) (endsR w r fl)) (fun _ _=>False):=by
  intro d
  induction d with
  | zero=>rintro ⟨k,s,l⟩ _ h;simp [depth] at h
  | succ d ih=>
    rintro ⟨k,s,l⟩ hr hd hs fl hfl H q hq
    have hkid : ∀ x ∈ l,depth x <= d:=fun x hx=>by have:=jeE (k:=k) (s:=s) hx;omega
    have hsk : ∀ x ∈ l,shapesR x = true:=by
      simp only [shapesR,Bool.and_eq_true,jc3] at hs
      exact fun x hx=>List.all_eq_true.1 hs.2 x hx
    obtain ⟨hk0,hk1,hs0,hs1,hlen,hok⟩:=hr
    have hqlt:=jah hq
    have hmk:=fun H=>jgt (n:=(w.length : Int) + 1) (H:=H) (by omega) (by omega)
    have hnat : ((w.length : Int) + 1).toNat = w.length + 1:=by omega
    simp only [hnat] at hmk
    refine jaj (n:=219) (rs:=[.tmp 6]) Tryz.func23 rfl rfl rfl rfl rfl rfl ?_
    (refine wz1 ?_;refine wz2 ?_;simp -dsimp (maxSteps:=999999) (disch:=omega) only[go_sem,simprocAttr, *,isD])
    (refine wz1 ?_;refine wz2 ?_;simp -dsimp (maxSteps:=999999) (disch:=omega) only[go_sem,simprocAttr, *,isD])
    refine jgS (fun H1=>St H H1 H.length q (rxD (.mk k s l)) fl /\ hget H1 (H.length + 1) = .arr (bsD (List.replicate (w.length + 1) false))) ?_ ?_
    · refine ⟨⟨⟨by simp,fun i hi=>?_⟩,?_,?_,hqlt⟩,?_⟩
      · rw [List.append_assoc,jac hi]
      · rw [List.append_assoc,jap];rfl
      · rw [List.append_assoc,jac hqlt];exact hq
      · rw [List.append_assoc];exact jgw (H:=H) (k:=1)
    · clear hmk hq
      generalize hm : H.length = m at *
      rintro H1 ⟨hst,hout⟩
      refine jvZ (fun e Hx=>∃ p,m <= p /\ e 7 = .vec p 0 (w.length + 1) /\ hget Hx p = .arr (bsD (endsR w (.mk k s l) fl)) /\ Same m H Hx) ?_ ?_
      · intro R hR
        have hrx:=hst.rx
        by_cases h0 : k = 0
        · subst h0
          have he : endsR w (.mk 0 s l) fl = fl:=by simp [endsR]
          rw [he] at hR
          repeat' (first | apply wz1|apply wz2|apply wz3|apply wz4|apply wz5|apply wz6 | simp -dsimp (maxSteps:=999999) (disch:=omega) only[go_sem,simprocAttr, *])
          refine wz7 (fun hb=>?_) (fun hb=>?_) <;> try simp -dsimp (maxSteps:=999999) (disch:=omega) only[go_sem,simprocAttr,decide_eq_true_eq,decide_eq_false_iff_not,Bool.not_eq_true,Bool.not_eq_false,Int.not_lt,Int.not_le] at hb
          repeat' (first | apply wz1|apply wz2|apply wz3|apply wz4|apply wz5|apply wz6 | simp -dsimp (maxSteps:=999999) (disch:=omega) only[go_sem,simprocAttr, *])
          refine jae (fun e Hx=>∃ (j : Nat) (L : List Bool),j <= w.length + 1 /\ L.length = w.length + 1 /\ L.take j = fl.take j /\ St H Hx m q (rxD (.mk 0 s l)) fl /\ hget Hx (m + 1) = .arr (bsD L) /\ e 1 = isD w /\ e 2 = .vec q 0 (w.length + 1) /\ e 3 = .ptr m 0 0 /\ e 7 = .vec (m + 1) 0 (w.length + 1) /\ e 8 = .int .i64 j) (fun e H=>w.length + 1 - natOf (e 8)) ?_ ?_
          · exact ⟨0,List.replicate (w.length + 1) false,by omega,by simp,rfl,hst,hout,by simp -dsimp (maxSteps:=999999) (disch:=omega) only[go_sem,simprocAttr, *,isD],gs,gs,gs,rfl⟩
          · clear hst hout
            rintro e Hx ⟨j,L,hj,hL,htk,hst,hout,e1,e2,e3,e7,e8⟩ R2 hR2
            have hv1:=jau hout (by omega)
            have hv2:=jau hst.fr (by omega)
            have hfr:=hst.fr
            repeat' (first | apply wz1|apply wz2|apply wz3|apply wz4|apply wz5|apply wz6 | simp -dsimp (maxSteps:=999999) (disch:=omega) only[go_sem,simprocAttr, *])
            refine wz7 (fun hb2=>?_) (fun hb2=>?_) <;> try simp -dsimp (maxSteps:=999999) (disch:=omega) only[go_sem,simprocAttr,decide_eq_true_eq,decide_eq_false_iff_not,Bool.not_eq_true,Bool.not_eq_false,Int.not_lt,Int.not_le] at hb2
            · have hlt : j < w.length + 1:=by omega
              have hx:=bs_at (l:=fl) (i:=j) (by omega)
              have hy:=bs_at (l:=L) (i:=j) (by omega)
              repeat' (first | apply wz1|apply wz2|apply wz3|apply wz4|apply wz5|apply wz6 | simp -dsimp (maxSteps:=999999) (disch:=omega) only[go_sem,simprocAttr, *])
              refine hR2 _ _ ⟨j + 1,L.set j fl[j],by omega,by simp [hL],take_set (by omega) htk (List.getElem?_eq_getElem (by omega)),?_,?_,gs,gs,gs,gs,gs⟩ ?_
              · exact hst.set (by omega)
              · rw [jbI];exact jad (jah hout)
              · simp -dsimp (maxSteps:=999999) (disch:=omega) only[go_sem,simprocAttr, *,jab]
            · rw [List.take_of_length_le (by omega),List.take_of_length_le (by omega)] at htk
              subst htk
              repeat' (first | apply wz1|apply wz2|apply wz3|apply wz4|apply wz5|apply wz6 | simp -dsimp (maxSteps:=999999) (disch:=omega) only[go_sem,simprocAttr, *])
              exact hR _ _ ⟨m + 1,by omega,gs,hout,hst.same⟩
        by_cases h1 : k = 1
        · subst h1
          have he : endsR w (.mk 1 s l) fl = stepB s w fl:=by simp [endsR]
          rw [he] at hR
          repeat' (first | apply wz1|apply wz2|apply wz3|apply wz4|apply wz5|apply wz6 | simp -dsimp (maxSteps:=999999) (disch:=omega) only[go_sem,simprocAttr, *])
          refine wz7 (fun hb=>?_) (fun hb=>?_) <;> try simp -dsimp (maxSteps:=999999) (disch:=omega) only[go_sem,simprocAttr,decide_eq_true_eq,decide_eq_false_iff_not,Bool.not_eq_true,Bool.not_eq_false,Int.not_lt,Int.not_le] at hb
          repeat' (first | apply wz1|apply wz2|apply wz3|apply wz4|apply wz5|apply wz6 | simp -dsimp (maxSteps:=999999) (disch:=omega) only[go_sem,simprocAttr, *])
          refine wz7 (fun hb=>?_) (fun hb=>?_) <;> try simp -dsimp (maxSteps:=999999) (disch:=omega) only[go_sem,simprocAttr,decide_eq_true_eq,decide_eq_false_iff_not,Bool.not_eq_true,Bool.not_eq_false,Int.not_lt,Int.not_le] at hb
          repeat' (first | apply wz1|apply wz2|apply wz3|apply wz4|apply wz5|apply wz6 | simp -dsimp (maxSteps:=999999) (disch:=omega) only[go_sem,simprocAttr, *])
          refine jae (fun e Hx=>∃ (j : Nat),j <= w.length /\ St H Hx m q (rxD (.mk 1 s l)) fl /\ hget Hx (m + 1) = .arr (bsD (stepL s w fl j)) /\ e 1 = isD w /\ e 2 = .vec q 0 (w.length + 1) /\ e 3 = .ptr m 0 0 /\ e 7 = .vec (m + 1) 0 (w.length + 1) /\ e 9 = .int .i64 j) (fun e H=>w.length - natOf (e 9)) ?_ ?_
          · exact ⟨0,by omega,hst,by rw [jop hfl];exact hout,by simp -dsimp (maxSteps:=999999) (disch:=omega) only[go_sem,simprocAttr, *,isD],gs,gs,gs,rfl⟩
          · clear hst hout hrx
            rintro e Hx ⟨j,hj,hst,hout,e1,e2,e3,e7,e9⟩ R2 hR2
            have hLl:=jqd (s:=s) hfl j (by omega)
            have hv1:=jau hout (by omega)
            have hv2:=jau hst.fr (by omega)
            have hfr:=hst.fr
            have hrx:=hst.rx
            repeat' (first | apply wz1|apply wz2|apply wz3|apply wz4|apply wz5|apply wz6 | simp -dsimp (maxSteps:=999999) (disch:=omega) only[go_sem,simprocAttr, *,isD])
            refine wz7 (fun hb2=>?_) (fun hb2=>?_) <;> try simp -dsimp (maxSteps:=999999) (disch:=omega) only[go_sem,simprocAttr,decide_eq_true_eq,decide_eq_false_iff_not,Bool.not_eq_true,Bool.not_eq_false,Int.not_lt,Int.not_le] at hb2
            · have hx:=bs_at (l:=fl) (i:=j) (by omega)
              have hnext:=joy (s:=s) hfl hb2
              by_cases c1 : fl[j] = true
              · by_cases c2 : 0 <= w[j]
                · by_cases c3 : w[j] < 16
                  · cases hbz : bitZ s w[j] with
                    | true=>
                      have hz : (fl[j] && inB s w[j]) = true:=by simp [inB,c1,c2,c3,hbz]
                      simp only [bitZ] at hbz
                      rw [hz] at hnext
                      have hy:=bs_at (l:=stepL s w fl j) (i:=j + 1) (by omega)
                      repeat' (first | apply wz1|apply wz2|apply wz3|apply wz4|apply wz5|apply wz6 | simp -dsimp (maxSteps:=999999) (disch:=omega) only[go_sem,simprocAttr, *,isD])
                      refine jao (prs:=[]) (by kernel_rfl) rfl (by kernel_rfl) ?_;simp -dsimp (maxSteps:=999999) (disch:=omega) only[go_sem,simprocAttr, *,isD]
                      refine wz7 (fun hb3=>?_) (fun hb3=>?_) <;> try simp -dsimp (maxSteps:=999999) (disch:=omega) only[go_sem,simprocAttr,decide_eq_true_eq,decide_eq_false_iff_not,Bool.not_eq_true,Bool.not_eq_false,Int.not_lt,Int.not_le] at hb3
                      · repeat' (first | apply wz1|apply wz2|apply wz3|apply wz4|apply wz5|apply wz6 | simp -dsimp (maxSteps:=999999) (disch:=omega) only[go_sem,simprocAttr, *,isD])
                        refine hR2 _ _ ⟨j + 1,by omega,hst.set (by omega),?_,gs,gs,gs,gs,gs⟩ ?_
                        · rw [hnext,<- jbI];exact jad (jah hout)
                        · simp -dsimp (maxSteps:=999999) (disch:=omega) only[go_sem,simprocAttr, *,jab]
                      · exact absurd (hbz.symm.trans hb3) (by decide)
                    | false=>
                      have hz : (fl[j] && inB s w[j]) = false:=by simp [inB,hbz]
                      rw [hz] at hnext
                      have hsame : (stepL s w fl j).set (j + 1) false = stepL s w fl j:=jc7 hfl hb2
                      rw [hsame] at hnext
                      clear hz hsame
                      simp only [bitZ] at hbz
                      repeat' (first | apply wz1|apply wz2|apply wz3|apply wz4|apply wz5|apply wz6 | simp -dsimp (maxSteps:=999999) (disch:=omega) only[go_sem,simprocAttr, *,isD])
                      refine jao (prs:=[]) (by kernel_rfl) rfl (by kernel_rfl) ?_;simp -dsimp (maxSteps:=999999) (disch:=omega) only[go_sem,simprocAttr, *,isD]
                      refine wz7 (fun hb3=>?_) (fun hb3=>?_) <;> try simp -dsimp (maxSteps:=999999) (disch:=omega) only[go_sem,simprocAttr,decide_eq_true_eq,decide_eq_false_iff_not,Bool.not_eq_true,Bool.not_eq_false,Int.not_lt,Int.not_le] at hb3
                      · exact absurd (hbz.symm.trans hb3) (by decide)
                      · repeat' (first | apply wz1|apply wz2|apply wz3|apply wz4|apply wz5|apply wz6 | simp -dsimp (maxSteps:=999999) (disch:=omega) only[go_sem,simprocAttr, *,isD])
                        refine hR2 _ _ ⟨j + 1,by omega,hst,by rw [hnext];exact hout,gs,gs,gs,gs,gs⟩ ?_
                        simp -dsimp (maxSteps:=999999) (disch:=omega) only[go_sem,simprocAttr, *,jab]
                  · have hz0:=c3
                    have hz : (fl[j] && inB s w[j]) = false:=by simp [inB,c3]
                    rw [hz] at hnext
                    have hsame : (stepL s w fl j).set (j + 1) false = stepL s w fl j:=jc7 hfl hb2
                    rw [hsame] at hnext
                    clear hz hsame
                    repeat' (first | apply wz1|apply wz2|apply wz3|apply wz4|apply wz5|apply wz6 | simp -dsimp (maxSteps:=999999) (disch:=omega) only[go_sem,simprocAttr, *,isD])
                    refine jao (prs:=[]) (by kernel_rfl) rfl (by kernel_rfl) ?_;simp -dsimp (maxSteps:=999999) (disch:=omega) only[go_sem,simprocAttr, *,isD]
                    refine wz7 (fun hb3=>?_) (fun hb3=>?_) <;> try simp -dsimp (maxSteps:=999999) (disch:=omega) only[go_sem,simprocAttr,decide_eq_true_eq,decide_eq_false_iff_not,Bool.not_eq_true,Bool.not_eq_false,Int.not_lt,Int.not_le] at hb3
                    repeat' (first | apply wz1|apply wz2|apply wz3|apply wz4|apply wz5|apply wz6 | simp -dsimp (maxSteps:=999999) (disch:=omega) only[go_sem,simprocAttr, *,isD])
                    refine hR2 _ _ ⟨j + 1,by omega,hst,by rw [hnext];exact hout,gs,gs,gs,gs,gs⟩ ?_
                    simp -dsimp (maxSteps:=999999) (disch:=omega) only[go_sem,simprocAttr, *,jab]
                · have hz0:=c2
                  have hz : (fl[j] && inB s w[j]) = false:=by simp [inB,c2]
                  rw [hz] at hnext
                  have hsame : (stepL s w fl j).set (j + 1) false = stepL s w fl j:=jc7 hfl hb2
                  rw [hsame] at hnext
                  clear hz hsame
                  repeat' (first | apply wz1|apply wz2|apply wz3|apply wz4|apply wz5|apply wz6 | simp -dsimp (maxSteps:=999999) (disch:=omega) only[go_sem,simprocAttr, *,isD])
                  refine jao (prs:=[]) (by kernel_rfl) rfl (by kernel_rfl) ?_;simp -dsimp (maxSteps:=999999) (disch:=omega) only[go_sem,simprocAttr, *,isD]
                  refine wz7 (fun hb3=>?_) (fun hb3=>?_) <;> try simp -dsimp (maxSteps:=999999) (disch:=omega) only[go_sem,simprocAttr,decide_eq_true_eq,decide_eq_false_iff_not,Bool.not_eq_true,Bool.not_eq_false,Int.not_lt,Int.not_le] at hb3
                  repeat' (first | apply wz1|apply wz2|apply wz3|apply wz4|apply wz5|apply wz6 | simp -dsimp (maxSteps:=999999) (disch:=omega) only[go_sem,simprocAttr, *,isD])
                  refine hR2 _ _ ⟨j + 1,by omega,hst,by rw [hnext];exact hout,gs,gs,gs,gs,gs⟩ ?_
                  simp -dsimp (maxSteps:=999999) (disch:=omega) only[go_sem,simprocAttr, *,jab]
              · simp only [Bool.not_eq_true] at c1
                have hz : (fl[j] && inB s w[j]) = false:=by simp [inB,c1]
                rw [hz] at hnext
                have hsame : (stepL s w fl j).set (j + 1) false = stepL s w fl j:=jc7 hfl hb2
                rw [hsame] at hnext
                clear hz hsame
                repeat' (first | apply wz1|apply wz2|apply wz3|apply wz4|apply wz5|apply wz6 | simp -dsimp (maxSteps:=999999) (disch:=omega) only[go_sem,simprocAttr, *,isD])
                refine jao (prs:=[]) (by kernel_rfl) rfl (by kernel_rfl) ?_;simp -dsimp (maxSteps:=999999) (disch:=omega) only[go_sem,simprocAttr, *,isD]
                refine wz7 (fun hb3=>?_) (fun hb3=>?_) <;> try simp -dsimp (maxSteps:=999999) (disch:=omega) only[go_sem,simprocAttr,decide_eq_true_eq,decide_eq_false_iff_not,Bool.not_eq_true,Bool.not_eq_false,Int.not_lt,Int.not_le] at hb3
                repeat' (first | apply wz1|apply wz2|apply wz3|apply wz4|apply wz5|apply wz6 | simp -dsimp (maxSteps:=999999) (disch:=omega) only[go_sem,simprocAttr, *,isD])
                refine hR2 _ _ ⟨j + 1,by omega,hst,by rw [hnext];exact hout,gs,gs,gs,gs,gs⟩ ?_
                simp -dsimp (maxSteps:=999999) (disch:=omega) only[go_sem,simprocAttr, *,jab]
            · have hjw : j = w.length:=by omega
              subst hjw
              rw [jrr hfl] at hout
              repeat' (first | apply wz1|apply wz2|apply wz3|apply wz4|apply wz5|apply wz6 | simp -dsimp (maxSteps:=999999) (disch:=omega) only[go_sem,simprocAttr, *])
              exact hR _ _ ⟨m + 1,by omega,gs,hout,hst.same⟩
        by_cases h2 : k = 2
        · subst h2
          have he : endsR w (.mk 2 s l) fl = endsCat w l fl:=by simp [endsR]
          rw [he] at hR
          repeat' (first | apply wz1|apply wz2|apply wz3|apply wz4|apply wz5|apply wz6 | simp -dsimp (maxSteps:=999999) (disch:=omega) only[go_sem,simprocAttr, *])
          refine wz7 (fun hb=>?_) (fun hb=>?_) <;> try simp -dsimp (maxSteps:=999999) (disch:=omega) only[go_sem,simprocAttr,decide_eq_true_eq,decide_eq_false_iff_not,Bool.not_eq_true,Bool.not_eq_false,Int.not_lt,Int.not_le] at hb
          repeat' (first | apply wz1|apply wz2|apply wz3|apply wz4|apply wz5|apply wz6 | simp -dsimp (maxSteps:=999999) (disch:=omega) only[go_sem,simprocAttr, *])
          refine wz7 (fun hb=>?_) (fun hb=>?_) <;> try simp -dsimp (maxSteps:=999999) (disch:=omega) only[go_sem,simprocAttr,decide_eq_true_eq,decide_eq_false_iff_not,Bool.not_eq_true,Bool.not_eq_false,Int.not_lt,Int.not_le] at hb
          repeat' (first | apply wz1|apply wz2|apply wz3|apply wz4|apply wz5|apply wz6 | simp -dsimp (maxSteps:=999999) (disch:=omega) only[go_sem,simprocAttr, *])
          refine wz7 (fun hb=>?_) (fun hb=>?_) <;> try simp -dsimp (maxSteps:=999999) (disch:=omega) only[go_sem,simprocAttr,decide_eq_true_eq,decide_eq_false_iff_not,Bool.not_eq_true,Bool.not_eq_false,Int.not_lt,Int.not_le] at hb
          repeat' (first | apply wz1|apply wz2|apply wz3|apply wz4|apply wz5|apply wz6 | simp -dsimp (maxSteps:=999999) (disch:=omega) only[go_sem,simprocAttr, *])
          refine jae (fun e Hx=>∃ (j : Nat) (L : List Bool),j <= w.length + 1 /\ L.length = w.length + 1 /\ L.take j = fl.take j /\ St H Hx m q (rxD (.mk 2 s l)) fl /\ hget Hx (m + 1) = .arr (bsD L) /\ e 1 = isD w /\ e 2 = .vec q 0 (w.length + 1) /\ e 3 = .ptr m 0 0 /\ e 7 = .vec (m + 1) 0 (w.length + 1) /\ e 10 = .int .i64 j) (fun e H=>w.length + 1 - natOf (e 10)) ?_ ?_
          · exact ⟨0,List.replicate (w.length + 1) false,by omega,by simp,rfl,hst,hout,by simp -dsimp (maxSteps:=999999) (disch:=omega) only[go_sem,simprocAttr, *,isD],gs,gs,gs,rfl⟩
          · clear hst hout
            rintro e Hx ⟨j,L,hj,hL,htk,hst,hout,e1,e2,e3,e7,e10⟩ R2 hR2
            have hv1:=jau hout (by omega)
            have hv2:=jau hst.fr (by omega)
            have hfr:=hst.fr
            repeat' (first | apply wz1|apply wz2|apply wz3|apply wz4|apply wz5|apply wz6 | simp -dsimp (maxSteps:=999999) (disch:=omega) only[go_sem,simprocAttr, *])
            refine wz7 (fun hb2=>?_) (fun hb2=>?_) <;> try simp -dsimp (maxSteps:=999999) (disch:=omega) only[go_sem,simprocAttr,decide_eq_true_eq,decide_eq_false_iff_not,Bool.not_eq_true,Bool.not_eq_false,Int.not_lt,Int.not_le] at hb2
            · have hlt : j < w.length + 1:=by omega
              have hx:=bs_at (l:=fl) (i:=j) (by omega)
              have hy:=bs_at (l:=L) (i:=j) (by omega)
              repeat' (first | apply wz1|apply wz2|apply wz3|apply wz4|apply wz5|apply wz6 | simp -dsimp (maxSteps:=999999) (disch:=omega) only[go_sem,simprocAttr, *])
              refine hR2 _ _ ⟨j + 1,L.set j fl[j],by omega,by simp [hL],take_set (by omega) htk (List.getElem?_eq_getElem (by omega)),?_,?_,gs,gs,gs,gs,gs⟩ ?_
              · exact hst.set (by omega)
              · rw [jbI];exact jad (jah hout)
              · simp -dsimp (maxSteps:=999999) (disch:=omega) only[go_sem,simprocAttr, *,jab]
            · rw [List.take_of_length_le (by omega),List.take_of_length_le (by omega)] at htk
              subst htk
              clear hR2 hv1 hv2 hfr hb2
              have hrx:=hst.rx
              repeat' (first | apply wz1|apply wz2|apply wz3|apply wz4|apply wz5|apply wz6 | simp -dsimp (maxSteps:=999999) (disch:=omega) only[go_sem,simprocAttr, *])
              refine jae (fun e Hx=>∃ (j p : Nat) (M : List Bool),j <= l.length /\ M.length = w.length + 1 /\ St H Hx m q (rxD (.mk 2 s l)) L /\ m <= p /\ hget Hx p = .arr (bsD M) /\ e 1 = isD w /\ e 3 = .ptr m 0 0 /\ e 7 = .vec p 0 (w.length + 1) /\ e 11 = .int .i64 j /\ endsCat w l L = endsCat w (l.drop j) M) (fun e H=>l.length - natOf (e 11)) ?_ ?_
              · exact ⟨0,m + 1,L,by omega,hL,hst,by omega,hout,gs,gs,gs,rfl,by simp⟩
              · clear hst hout hrx hj
                rintro e Hx ⟨j,p,M,hj,hM,hst,hp,hout,e1,e3,e7,e11,ha⟩ R2 hR2
                have hrx:=hst.rx
                repeat' (first | apply wz1|apply wz2|apply wz3|apply wz4|apply wz5|apply wz6 | simp -dsimp (maxSteps:=999999) (disch:=omega) only[go_sem,simprocAttr, *])
                refine wz7 (fun hb2=>?_) (fun hb2=>?_) <;> try simp -dsimp (maxSteps:=999999) (disch:=omega) only[go_sem,simprocAttr,decide_eq_true_eq,decide_eq_false_iff_not,Bool.not_eq_true,Bool.not_eq_false,Int.not_lt,Int.not_le] at hb2
                · rw [List.drop_eq_getElem_cons hb2] at ha
                  simp only [endsCat] at ha
                  have hsj : shapesR l[j] = true:=hsk _ (List.getElem_mem hb2)
                  repeat' (first | apply wz1|apply wz2|apply wz3|apply wz4|apply wz5|apply wz6 | simp -dsimp (maxSteps:=999999) (disch:=omega) only[go_sem,simprocAttr, *])
                  refine jag bo23 rfl rfl (ih l[j] (jbq hok _ (List.getElem_mem hb2)) (hkid _ (List.getElem_mem hb2)) hsj M hM Hx p hout) ?_ (fun _ _ h=>h.elim)
                  rintro _ Hy ⟨hsame,p',hp',rfl,hout'⟩
                  have hlx:=jah hst.rx
                  simp -dsimp (maxSteps:=999999) (disch:=omega) only[go_sem,simprocAttr, *]
                  repeat' (first | apply wz1|apply wz2|apply wz3|apply wz4|apply wz5|apply wz6 | simp -dsimp (maxSteps:=999999) (disch:=omega) only[go_sem,simprocAttr, *])
                  refine hR2 _ _ ⟨j + 1,p',_,by omega,jaB w l[j] M hM,hst.call hsame,by omega,hout',gs,gs,gs,gs,ha⟩ ?_
                  simp -dsimp (maxSteps:=999999) (disch:=omega) only[go_sem,simprocAttr, *,jab]
                · rw [List.drop_eq_nil_of_le (by omega)] at ha
                  simp only [endsCat] at ha
                  rw [ha] at hR
                  repeat' (first | apply wz1|apply wz2|apply wz3|apply wz4|apply wz5|apply wz6 | simp -dsimp (maxSteps:=999999) (disch:=omega) only[go_sem,simprocAttr, *])
                  exact hR _ _ ⟨p,hp,gs,hout,hst.same⟩
        by_cases h3 : k = 3
        · subst h3
          have he : endsR w (.mk 3 s l) fl = endsAlt w l fl (List.replicate (w.length + 1) false):=by simp [endsR]
          rw [he] at hR
          repeat' (first | apply wz1|apply wz2|apply wz3|apply wz4|apply wz5|apply wz6 | simp -dsimp (maxSteps:=999999) (disch:=omega) only[go_sem,simprocAttr, *])
          refine wz7 (fun hb=>?_) (fun hb=>?_) <;> try simp -dsimp (maxSteps:=999999) (disch:=omega) only[go_sem,simprocAttr,decide_eq_true_eq,decide_eq_false_iff_not,Bool.not_eq_true,Bool.not_eq_false,Int.not_lt,Int.not_le] at hb
          repeat' (first | apply wz1|apply wz2|apply wz3|apply wz4|apply wz5|apply wz6 | simp -dsimp (maxSteps:=999999) (disch:=omega) only[go_sem,simprocAttr, *])
          refine wz7 (fun hb=>?_) (fun hb=>?_) <;> try simp -dsimp (maxSteps:=999999) (disch:=omega) only[go_sem,simprocAttr,decide_eq_true_eq,decide_eq_false_iff_not,Bool.not_eq_true,Bool.not_eq_false,Int.not_lt,Int.not_le] at hb
          repeat' (first | apply wz1|apply wz2|apply wz3|apply wz4|apply wz5|apply wz6 | simp -dsimp (maxSteps:=999999) (disch:=omega) only[go_sem,simprocAttr, *])
          refine wz7 (fun hb=>?_) (fun hb=>?_) <;> try simp -dsimp (maxSteps:=999999) (disch:=omega) only[go_sem,simprocAttr,decide_eq_true_eq,decide_eq_false_iff_not,Bool.not_eq_true,Bool.not_eq_false,Int.not_lt,Int.not_le] at hb
          repeat' (first | apply wz1|apply wz2|apply wz3|apply wz4|apply wz5|apply wz6 | simp -dsimp (maxSteps:=999999) (disch:=omega) only[go_sem,simprocAttr, *])
          refine wz7 (fun hb=>?_) (fun hb=>?_) <;> try simp -dsimp (maxSteps:=999999) (disch:=omega) only[go_sem,simprocAttr,decide_eq_true_eq,decide_eq_false_iff_not,Bool.not_eq_true,Bool.not_eq_false,Int.not_lt,Int.not_le] at hb
          repeat' (first | apply wz1|apply wz2|apply wz3|apply wz4|apply wz5|apply wz6 | simp -dsimp (maxSteps:=999999) (disch:=omega) only[go_sem,simprocAttr, *])
          refine jae (fun e Hx=>∃ (j : Nat) (M : List Bool),j <= l.length /\ M.length = w.length + 1 /\ St H Hx m q (rxD (.mk 3 s l)) fl /\ hget Hx (m + 1) = .arr (bsD M) /\ e 1 = isD w /\ e 2 = .vec q 0 (w.length + 1) /\ e 3 = .ptr m 0 0 /\ e 7 = .vec (m + 1) 0 (w.length + 1) /\ e 12 = .int .i64 j /\ endsAlt w l fl (List.replicate (w.length + 1) false) = endsAlt w (l.drop j) fl M) (fun e H=>l.length - natOf (e 12)) ?_ ?_
          · exact ⟨0,List.replicate (w.length + 1) false,by omega,by simp,hst,hout,by simp -dsimp (maxSteps:=999999) (disch:=omega) only[go_sem,simprocAttr, *,isD],gs,gs,gs,rfl,by simp⟩
          · clear hst hout hrx
            rintro e Hx ⟨j,M,hj,hM,hst,hout,e1,e2,e3,e7,e12,ha⟩ R2 hR2
            have hrx:=hst.rx
            repeat' (first | apply wz1|apply wz2|apply wz3|apply wz4|apply wz5|apply wz6 | simp -dsimp (maxSteps:=999999) (disch:=omega) only[go_sem,simprocAttr, *])
            refine wz7 (fun hb2=>?_) (fun hb2=>?_) <;> try simp -dsimp (maxSteps:=999999) (disch:=omega) only[go_sem,simprocAttr,decide_eq_true_eq,decide_eq_false_iff_not,Bool.not_eq_true,Bool.not_eq_false,Int.not_lt,Int.not_le] at hb2
            · rw [List.drop_eq_getElem_cons hb2] at ha
              simp only [endsAlt] at ha
              have hsj : shapesR l[j] = true:=hsk _ (List.getElem_mem hb2)
              repeat' (first | apply wz1|apply wz2|apply wz3|apply wz4|apply wz5|apply wz6 | simp -dsimp (maxSteps:=999999) (disch:=omega) only[go_sem,simprocAttr, *])
              refine jag bo23 rfl rfl (ih l[j] (jbq hok _ (List.getElem_mem hb2)) (hkid _ (List.getElem_mem hb2)) hsj fl hfl Hx q hst.fr) ?_ (fun _ _ h=>h.elim)
              rintro _ Hy ⟨hsame,p',hp',rfl,hX⟩
              have hXl:=jaB w l[j] fl hfl
              generalize endsR w l[j] fl = X at *
              have hlx:=jah hout
              have hst2:=hst.call hsame
              have hout2 : hget Hy (m + 1) = .arr (bsD M):=by rw [hsame.2 _ hlx];exact hout
              clear hst hout hrx
              simp -dsimp (maxSteps:=999999) (disch:=omega) only[go_sem,simprocAttr, *]
              repeat' (first | apply wz1|apply wz2|apply wz3|apply wz4|apply wz5|apply wz6 | simp -dsimp (maxSteps:=999999) (disch:=omega) only[go_sem,simprocAttr, *])
              refine jae (fun e Hx=>∃ (i : Nat),i <= w.length + 1 /\ St H Hx m q (rxD (.mk 3 s l)) fl /\ hget Hx (m + 1) = .arr (bsD (orL M X i)) /\ hget Hx p' = .arr (bsD X) /\ e 1 = isD w /\ e 2 = .vec q 0 (w.length + 1) /\ e 3 = .ptr m 0 0 /\ e 7 = .vec (m + 1) 0 (w.length + 1) /\ e 12 = .int .i64 j /\ e 13 = .vec p' 0 (w.length + 1) /\ e 14 = .int .i64 i) (fun e H=>w.length + 1 - natOf (e 14)) ?_ ?_
              · exact ⟨0,by omega,hst2,by rw [jgm];exact hout2,hX,gs,gs,gs,gs,gs,gs,rfl⟩
              · clear hst2 hout2 hX
                rintro e Hz ⟨i,hi,hst,hout,hX,e1,e2,e3,e7,e12,e13,e14⟩ R3 hR3
                have hOl:=jhT hM hXl hi
                have hv1:=jau hout (by omega)
                have hv2:=jau hX (by omega)
                repeat' (first | apply wz1|apply wz2|apply wz3|apply wz4|apply wz5|apply wz6 | simp -dsimp (maxSteps:=999999) (disch:=omega) only[go_sem,simprocAttr, *])
                refine wz7 (fun hb3=>?_) (fun hb3=>?_) <;> try simp -dsimp (maxSteps:=999999) (disch:=omega) only[go_sem,simprocAttr,decide_eq_true_eq,decide_eq_false_iff_not,Bool.not_eq_true,Bool.not_eq_false,Int.not_lt,Int.not_le] at hb3
                · have hy:=bs_at (l:=X) (i:=i) (by omega)
                  have hz : (bsD (orL M X i))[i]? = some (.bool M[i]):=by simp [bsD,jkS hM hXl (show i < w.length + 1 by omega)]
                  have hnext:=jgI hM hXl (show i < w.length + 1 by omega)
                  have hne : m + 1 ≠ p':=by omega
                  cases hMi : M[i] with
                  | true=>
                    rw [hMi] at hz hnext
                    rw [Bool.true_or] at hnext
                    repeat' (first | apply wz1|apply wz2|apply wz3|apply wz4|apply wz5|apply wz6 | simp -dsimp (maxSteps:=999999) (disch:=omega) only[go_sem,simprocAttr, *])
                    refine hR3 _ _ ⟨i + 1,by omega,hst.set (by omega),by rw [hnext,<- jbI];exact jad (jah hout),by rw [jaa hne];exact hX,gs,gs,gs,gs,gs,gs,gs⟩ ?_
                    simp -dsimp (maxSteps:=999999) (disch:=omega) only[go_sem,simprocAttr, *,jab]
                  | false=>
                    rw [hMi] at hz hnext
                    rw [Bool.false_or] at hnext
                    repeat' (first | apply wz1|apply wz2|apply wz3|apply wz4|apply wz5|apply wz6 | simp -dsimp (maxSteps:=999999) (disch:=omega) only[go_sem,simprocAttr, *])
                    refine hR3 _ _ ⟨i + 1,by omega,hst.set (by omega),by rw [hnext,<- jbI];exact jad (jah hout),by rw [jaa hne];exact hX,gs,gs,gs,gs,gs,gs,gs⟩ ?_
                    simp -dsimp (maxSteps:=999999) (disch:=omega) only[go_sem,simprocAttr, *,jab]
                · have hii : i = w.length + 1:=by omega
                  subst hii
                  rw [jhM hM hXl] at hout
                  repeat' (first | apply wz1|apply wz2|apply wz3|apply wz4|apply wz5|apply wz6 | simp -dsimp (maxSteps:=999999) (disch:=omega) only[go_sem,simprocAttr, *])
                  refine hR2 _ _ ⟨j + 1,_,by omega,ja6 hM hXl,hst,hout,gs,gs,gs,gs,gs,ha⟩ ?_
                  simp -dsimp (maxSteps:=999999) (disch:=omega) only[go_sem,simprocAttr, *,jab]
            · rw [List.drop_eq_nil_of_le (by omega)] at ha
              simp only [endsAlt] at ha
              rw [ha] at hR
              repeat' (first | apply wz1|apply wz2|apply wz3|apply wz4|apply wz5|apply wz6 | simp -dsimp (maxSteps:=999999) (disch:=omega) only[go_sem,simprocAttr, *])
              exact hR _ _ ⟨m + 1,by omega,gs,hout,hst.same⟩
        by_cases hK : k = 4
        · subst hK
          obtain ⟨kid,rfl⟩ : ∃ kid,l = [kid]:=by
            simp only [shapesR,Bool.and_eq_true] at hs
            have:=hs.1
            simp [shape1] at this
            exact List.length_eq_one_iff.1 this.1
          have he : endsR w (.mk 4 s [kid]) fl = roundsB (endsR w kid) false (w.length + 1) fl:=by simp [endsR,endsOne]
          rw [he] at hR
          generalize hG : roundsB (endsR w kid) false (w.length + 1) fl = G at hR
          have hsj : shapesR kid = true:=hsk _ (by simp)
          have hkd:=hkid kid (by simp)
          have hok1:=jbq hok kid (by simp)
          have hdR:=fun x (hx : x.length = w.length + 1)=>jaB w kid x hx
          repeat' (first | apply wz1|apply wz2|apply wz3|apply wz4|apply wz5|apply wz6 | simp -dsimp (maxSteps:=999999) (disch:=omega) only[go_sem,simprocAttr, *])
          refine wz7 (fun hb=>?_) (fun hb=>?_) <;> try simp -dsimp (maxSteps:=999999) (disch:=omega) only[go_sem,simprocAttr,decide_eq_true_eq,decide_eq_false_iff_not,Bool.not_eq_true,Bool.not_eq_false,Int.not_lt,Int.not_le] at hb
          repeat' (first | apply wz1|apply wz2|apply wz3|apply wz4|apply wz5|apply wz6 | simp -dsimp (maxSteps:=999999) (disch:=omega) only[go_sem,simprocAttr, *])
          refine wz7 (fun hb=>?_) (fun hb=>?_) <;> try simp -dsimp (maxSteps:=999999) (disch:=omega) only[go_sem,simprocAttr,decide_eq_true_eq,decide_eq_false_iff_not,Bool.not_eq_true,Bool.not_eq_false,Int.not_lt,Int.not_le] at hb
          repeat' (first | apply wz1|apply wz2|apply wz3|apply wz4|apply wz5|apply wz6 | simp -dsimp (maxSteps:=999999) (disch:=omega) only[go_sem,simprocAttr, *])
          refine wz7 (fun hb=>?_) (fun hb=>?_) <;> try simp -dsimp (maxSteps:=999999) (disch:=omega) only[go_sem,simprocAttr,decide_eq_true_eq,decide_eq_false_iff_not,Bool.not_eq_true,Bool.not_eq_false,Int.not_lt,Int.not_le] at hb
          repeat' (first | apply wz1|apply wz2|apply wz3|apply wz4|apply wz5|apply wz6 | simp -dsimp (maxSteps:=999999) (disch:=omega) only[go_sem,simprocAttr, *])
          refine wz7 (fun hb=>?_) (fun hb=>?_) <;> try simp -dsimp (maxSteps:=999999) (disch:=omega) only[go_sem,simprocAttr,decide_eq_true_eq,decide_eq_false_iff_not,Bool.not_eq_true,Bool.not_eq_false,Int.not_lt,Int.not_le] at hb
          repeat' (first | apply wz1|apply wz2|apply wz3|apply wz4|apply wz5|apply wz6 | simp -dsimp (maxSteps:=999999) (disch:=omega) only[go_sem,simprocAttr, *])
          refine wz7 (fun hb=>?_) (fun hb=>?_) <;> try simp -dsimp (maxSteps:=999999) (disch:=omega) only[go_sem,simprocAttr,decide_eq_true_eq,decide_eq_false_iff_not,Bool.not_eq_true,Bool.not_eq_false,Int.not_lt,Int.not_le] at hb
          repeat' (first | apply wz1|apply wz2|apply wz3|apply wz4|apply wz5|apply wz6 | simp -dsimp (maxSteps:=999999) (disch:=omega) only[go_sem,simprocAttr, *])
          refine wz7 (fun hb=>?_) (fun hb=>?_) <;> try simp -dsimp (maxSteps:=999999) (disch:=omega) only[go_sem,simprocAttr,decide_eq_true_eq,decide_eq_false_iff_not,Bool.not_eq_true,Bool.not_eq_false,Int.not_lt,Int.not_le] at hb
          repeat' (first | apply wz1|apply wz2|apply wz3|apply wz4|apply wz5|apply wz6 | simp -dsimp (maxSteps:=999999) (disch:=omega) only[go_sem,simprocAttr, *])
          refine jae (fun e Hx=>∃ (j : Nat) (L : List Bool),j <= w.length + 1 /\ L.length = w.length + 1 /\ L.take j = fl.take j /\ St H Hx m q (rxD (.mk 4 s [kid])) fl /\ hget Hx (m + 1) = .arr (bsD L) /\ e 1 = isD w /\ e 2 = .vec q 0 (w.length + 1) /\ e 3 = .ptr m 0 0 /\ e 7 = .vec (m + 1) 0 (w.length + 1) /\ e 15 = .int .i64 j) (fun e H=>w.length + 1 - natOf (e 15)) ?_ ?_
          · exact ⟨0,List.replicate (w.length + 1) false,by omega,by simp,rfl,hst,hout,by simp -dsimp (maxSteps:=999999) (disch:=omega) only[go_sem,simprocAttr, *,isD],gs,gs,gs,rfl⟩
          · clear hst hout
            rintro e Hx ⟨j,L,hj,hL,htk,hst,hout,e1,e2,e3,e7,e15⟩ R2 hR2
            have hv1:=jau hout (by omega)
            have hv2:=jau hst.fr (by omega)
            have hfr:=hst.fr
            repeat' (first | apply wz1|apply wz2|apply wz3|apply wz4|apply wz5|apply wz6 | simp -dsimp (maxSteps:=999999) (disch:=omega) only[go_sem,simprocAttr, *])
            refine wz7 (fun hb2=>?_) (fun hb2=>?_) <;> try simp -dsimp (maxSteps:=999999) (disch:=omega) only[go_sem,simprocAttr,decide_eq_true_eq,decide_eq_false_iff_not,Bool.not_eq_true,Bool.not_eq_false,Int.not_lt,Int.not_le] at hb2
            · have hlt : j < w.length + 1:=by omega
              have hx:=bs_at (l:=fl) (i:=j) (by omega)
              have hy:=bs_at (l:=L) (i:=j) (by omega)
              repeat' (first | apply wz1|apply wz2|apply wz3|apply wz4|apply wz5|apply wz6 | simp -dsimp (maxSteps:=999999) (disch:=omega) only[go_sem,simprocAttr, *])
              refine hR2 _ _ ⟨j + 1,L.set j fl[j],by omega,by simp [hL],take_set (by omega) htk (List.getElem?_eq_getElem (by omega)),?_,?_,gs,gs,gs,gs,gs⟩ ?_
              · exact hst.set (by omega)
              · rw [jbI];exact jad (jah hout)
              · simp -dsimp (maxSteps:=999999) (disch:=omega) only[go_sem,simprocAttr, *,jab]
            · rw [List.take_of_length_le (by omega),List.take_of_length_le (by omega)] at htk
              subst htk
              clear hR2 hv1 hv2 hfr hb2
              have hrx:=hst.rx
              repeat' (first | apply wz1|apply wz2|apply wz3|apply wz4|apply wz5|apply wz6 | simp -dsimp (maxSteps:=999999) (disch:=omega) only[go_sem,simprocAttr, *])
              refine jae (fun e Hx=>∃ (t : Nat) (M : List Bool),t <= w.length + 1 /\ M.length = w.length + 1 /\ St H Hx m q (rxD (.mk 4 s [kid])) L /\ hget Hx (m + 1) = .arr (bsD M) /\ e 1 = isD w /\ e 3 = .ptr m 0 0 /\ e 7 = .vec (m + 1) 0 (w.length + 1) /\ e 16 = .int .i64 t /\ G = roundsB (endsR w kid) false (w.length + 1 - t) M) (fun e H=>w.length + 1 - natOf (e 16)) ?_ ?_
              · exact ⟨0,L,by omega,hL,hst,hout,gs,gs,gs,rfl,hG.symm⟩
              · clear hst hout hrx hj
                rintro e Hx ⟨t,M,ht,hM,hst,hout,e1,e3,e7,e16,ha⟩ R2 hR2
                have hrx:=hst.rx
                repeat' (first | apply wz1|apply wz2|apply wz3|apply wz4|apply wz5|apply wz6 | simp -dsimp (maxSteps:=999999) (disch:=omega) only[go_sem,simprocAttr, *])
                refine wz7 (fun hb2=>?_) (fun hb2=>?_) <;> try simp -dsimp (maxSteps:=999999) (disch:=omega) only[go_sem,simprocAttr,decide_eq_true_eq,decide_eq_false_iff_not,Bool.not_eq_true,Bool.not_eq_false,Int.not_lt,Int.not_le] at hb2
                · rw [show w.length + 1 - t = (w.length - t) + 1 by omega] at ha
                  simp only [roundsB] at ha
                  repeat' (first | apply wz1|apply wz2|apply wz3|apply wz4|apply wz5|apply wz6 | simp -dsimp (maxSteps:=999999) (disch:=omega) only[go_sem,simprocAttr, *])
                  refine jag bo23 rfl rfl (ih kid hok1 hkd hsj M hM Hx (m + 1) hout) ?_ (fun _ _ h=>h.elim)
                  rintro _ Hy ⟨hsame,p',hp',rfl,hX⟩
                  have hXl:=jaB w kid M hM
                  generalize endsR w kid M = X at ha hX hXl
                  have hlx:=jah hout
                  have hst2:=hst.call hsame
                  have hout2 : hget Hy (m + 1) = .arr (bsD M):=by rw [hsame.2 _ hlx];exact hout
                  clear hst hout hrx
                  simp -dsimp (maxSteps:=999999) (disch:=omega) only[go_sem,simprocAttr, *]
                  repeat' (first | apply wz1|apply wz2|apply wz3|apply wz4|apply wz5|apply wz6 | simp -dsimp (maxSteps:=999999) (disch:=omega) only[go_sem,simprocAttr, *])
                  refine jae (fun e Hx=>∃ (i : Nat),i <= w.length + 1 /\ St H Hx m q (rxD (.mk 4 s [kid])) L /\ hget Hx (m + 1) = .arr (bsD (orL M X i)) /\ hget Hx p' = .arr (bsD X) /\ e 1 = isD w /\ e 3 = .ptr m 0 0 /\ e 7 = .vec (m + 1) 0 (w.length + 1) /\ e 16 = .int .i64 t /\ e 17 = .vec p' 0 (w.length + 1) /\ e 18 = .bool (moreL M X i) /\ e 19 = .int .i64 i) (fun e H=>w.length + 1 - natOf (e 19)) ?_ ?_
                  · exact ⟨0,by omega,hst2,by rw [jgm];exact hout2,hX,gs,gs,gs,gs,gs,by simp -dsimp (maxSteps:=999999) (disch:=omega) only[go_sem,simprocAttr, *];try rfl,rfl⟩
                  · clear hst2 hout2 hX
                    rintro e Hz ⟨i,hi,hst,hout,hX,e1,e3,e7,e16,e17,e18,e19⟩ R3 hR3
                    have hOl:=jhT hM hXl hi
                    have hv1:=jau hout (by omega)
                    have hv2:=jau hX (by omega)
                    repeat' (first | apply wz1|apply wz2|apply wz3|apply wz4|apply wz5|apply wz6 | simp -dsimp (maxSteps:=999999) (disch:=omega) only[go_sem,simprocAttr, *])
                    refine wz7 (fun hb3=>?_) (fun hb3=>?_) <;> try simp -dsimp (maxSteps:=999999) (disch:=omega) only[go_sem,simprocAttr,decide_eq_true_eq,decide_eq_false_iff_not,Bool.not_eq_true,Bool.not_eq_false,Int.not_lt,Int.not_le] at hb3
                    · have hy:=bs_at (l:=X) (i:=i) (by omega)
                      have hz : (bsD (orL M X i))[i]? = some (.bool M[i]):=by simp [bsD,jkS hM hXl (show i < w.length + 1 by omega)]
                      have hnext:=jgI hM hXl (show i < w.length + 1 by omega)
                      have hmore : moreL M X (i + 1) = (moreL M X i || (X[i] && !M[i])):=by simp [moreL,List.getD,show i < X.length by omega,show i < M.length by omega]
                      have hne : m + 1 ≠ p':=by omega
                      generalize moreL M X i = c at *
                      cases c <;> cases hXi : X[i] <;> cases hMi : M[i] <;>
                      (rw [hXi] at hy hnext hmore
                       rw [hMi] at hz hnext hmore
                       simp only [Bool.true_or,Bool.false_or,Bool.or_true,Bool.or_false,Bool.true_and,Bool.false_and,Bool.and_true,Bool.and_false,Bool.not_true,Bool.not_false] at hnext hmore
                       repeat' (first | apply wz1|apply wz2|apply wz3|apply wz4|apply wz5|apply wz6 | simp -dsimp (maxSteps:=999999) (disch:=omega) only[go_sem,simprocAttr, *])
                       refine hR3 _ _ ⟨i + 1,by omega,hst.set (by omega),by rw [hnext,<- jbI];exact jad (jah hout),by rw [jaa hne];exact hX,gs,gs,gs,gs,gs,gs,gs⟩ ?_
                       simp -dsimp (maxSteps:=999999) (disch:=omega) only[go_sem,simprocAttr, *,jab])
                    · have hii : i = w.length + 1:=by omega
                      subst hii
                      rw [jhM hM hXl] at hout
                      have hrx:=hst.rx
                      cases hmr : moreL M X (w.length + 1) with
                      | true=>
                        have hne : orB M X ≠ M:=fun h=>by rw [(jjc hM hXl).2 h] at hmr;cases hmr
                        rw [hmr] at e18
                        rw [if_neg (fun h=>h.elim (fun h=>by cases h) hne)] at ha
                        repeat' (first | apply wz1|apply wz2|apply wz3|apply wz4|apply wz5|apply wz6 | simp -dsimp (maxSteps:=999999) (disch:=omega) only[go_sem,simprocAttr, *])
                        refine wz7 (fun hb4=>?_) (fun hb4=>?_) <;> try simp -dsimp (maxSteps:=999999) (disch:=omega) only[go_sem,simprocAttr,decide_eq_true_eq,decide_eq_false_iff_not,Bool.not_eq_true,Bool.not_eq_false,Int.not_lt,Int.not_le] at hb4
                        repeat' (first | apply wz1|apply wz2|apply wz3|apply wz4|apply wz5|apply wz6 | simp -dsimp (maxSteps:=999999) (disch:=omega) only[go_sem,simprocAttr, *])
                        refine hR2 _ _ ⟨t + 1,orB M X,by omega,ja6 hM hXl,hst,hout,gs,gs,gs,gs,by rw [show w.length + 1 - (t + 1) = w.length - t by omega];exact ha⟩ ?_
                        simp -dsimp (maxSteps:=999999) (disch:=omega) only[go_sem,simprocAttr, *,jab]
                      | false=>
                        have heq : orB M X = M:=(jjc hM hXl).1 hmr
                        rw [hmr] at e18
                        rw [if_pos (.inr heq)] at ha
                        rw [ha] at hR
                        repeat' (first | apply wz1|apply wz2|apply wz3|apply wz4|apply wz5|apply wz6 | simp -dsimp (maxSteps:=999999) (disch:=omega) only[go_sem,simprocAttr, *])
                        refine wz7 (fun hb4=>?_) (fun hb4=>?_) <;> try simp -dsimp (maxSteps:=999999) (disch:=omega) only[go_sem,simprocAttr,decide_eq_true_eq,decide_eq_false_iff_not,Bool.not_eq_true,Bool.not_eq_false,Int.not_lt,Int.not_le] at hb4
                        repeat' (first | apply wz1|apply wz2|apply wz3|apply wz4|apply wz5|apply wz6 | simp -dsimp (maxSteps:=999999) (disch:=omega) only[go_sem,simprocAttr, *])
                        exact hR _ _ ⟨m + 1,by omega,gs,hout,hst.same⟩
                · rw [show w.length + 1 - t = 0 by omega] at ha
                  simp only [roundsB] at ha
                  rw [ha] at hR
                  repeat' (first | apply wz1|apply wz2|apply wz3|apply wz4|apply wz5|apply wz6 | simp -dsimp (maxSteps:=999999) (disch:=omega) only[go_sem,simprocAttr, *])
                  exact hR _ _ ⟨m + 1,by omega,gs,hout,hst.same⟩
        by_cases hL : k = 5
        · subst hL
          obtain ⟨kid,rfl⟩ : ∃ kid,l = [kid]:=by
            simp only [shapesR,Bool.and_eq_true] at hs
            have:=hs.1
            simp [shape1] at this
            exact List.length_eq_one_iff.1 this.1
          have he : endsR w (.mk 5 s [kid]) fl = roundsB (endsR w kid) true (w.length + 1) fl:=by simp [endsR,endsOne]
          rw [he] at hR
          generalize hG : roundsB (endsR w kid) true (w.length + 1) fl = G at hR
          have hsj : shapesR kid = true:=hsk _ (by simp)
          have hkd:=hkid kid (by simp)
          have hok1:=jbq hok kid (by simp)
          have hdR:=fun x (hx : x.length = w.length + 1)=>jaB w kid x hx
          repeat' (first | apply wz1|apply wz2|apply wz3|apply wz4|apply wz5|apply wz6 | simp -dsimp (maxSteps:=999999) (disch:=omega) only[go_sem,simprocAttr, *])
          refine wz7 (fun hb=>?_) (fun hb=>?_) <;> try simp -dsimp (maxSteps:=999999) (disch:=omega) only[go_sem,simprocAttr,decide_eq_true_eq,decide_eq_false_iff_not,Bool.not_eq_true,Bool.not_eq_false,Int.not_lt,Int.not_le] at hb
          repeat' (first | apply wz1|apply wz2|apply wz3|apply wz4|apply wz5|apply wz6 | simp -dsimp (maxSteps:=999999) (disch:=omega) only[go_sem,simprocAttr, *])
          refine wz7 (fun hb=>?_) (fun hb=>?_) <;> try simp -dsimp (maxSteps:=999999) (disch:=omega) only[go_sem,simprocAttr,decide_eq_true_eq,decide_eq_false_iff_not,Bool.not_eq_true,Bool.not_eq_false,Int.not_lt,Int.not_le] at hb
          repeat' (first | apply wz1|apply wz2|apply wz3|apply wz4|apply wz5|apply wz6 | simp -dsimp (maxSteps:=999999) (disch:=omega) only[go_sem,simprocAttr, *])
          refine wz7 (fun hb=>?_) (fun hb=>?_) <;> try simp -dsimp (maxSteps:=999999) (disch:=omega) only[go_sem,simprocAttr,decide_eq_true_eq,decide_eq_false_iff_not,Bool.not_eq_true,Bool.not_eq_false,Int.not_lt,Int.not_le] at hb
          repeat' (first | apply wz1|apply wz2|apply wz3|apply wz4|apply wz5|apply wz6 | simp -dsimp (maxSteps:=999999) (disch:=omega) only[go_sem,simprocAttr, *])
          refine wz7 (fun hb=>?_) (fun hb=>?_) <;> try simp -dsimp (maxSteps:=999999) (disch:=omega) only[go_sem,simprocAttr,decide_eq_true_eq,decide_eq_false_iff_not,Bool.not_eq_true,Bool.not_eq_false,Int.not_lt,Int.not_le] at hb
          repeat' (first | apply wz1|apply wz2|apply wz3|apply wz4|apply wz5|apply wz6 | simp -dsimp (maxSteps:=999999) (disch:=omega) only[go_sem,simprocAttr, *])
          refine wz7 (fun hb=>?_) (fun hb=>?_) <;> try simp -dsimp (maxSteps:=999999) (disch:=omega) only[go_sem,simprocAttr,decide_eq_true_eq,decide_eq_false_iff_not,Bool.not_eq_true,Bool.not_eq_false,Int.not_lt,Int.not_le] at hb
          repeat' (first | apply wz1|apply wz2|apply wz3|apply wz4|apply wz5|apply wz6 | simp -dsimp (maxSteps:=999999) (disch:=omega) only[go_sem,simprocAttr, *])
          refine wz7 (fun hb=>?_) (fun hb=>?_) <;> try simp -dsimp (maxSteps:=999999) (disch:=omega) only[go_sem,simprocAttr,decide_eq_true_eq,decide_eq_false_iff_not,Bool.not_eq_true,Bool.not_eq_false,Int.not_lt,Int.not_le] at hb
          repeat' (first | apply wz1|apply wz2|apply wz3|apply wz4|apply wz5|apply wz6 | simp -dsimp (maxSteps:=999999) (disch:=omega) only[go_sem,simprocAttr, *])
          refine jae (fun e Hx=>∃ (j : Nat) (L : List Bool),j <= w.length + 1 /\ L.length = w.length + 1 /\ L.take j = fl.take j /\ St H Hx m q (rxD (.mk 5 s [kid])) fl /\ hget Hx (m + 1) = .arr (bsD L) /\ e 1 = isD w /\ e 2 = .vec q 0 (w.length + 1) /\ e 3 = .ptr m 0 0 /\ e 7 = .vec (m + 1) 0 (w.length + 1) /\ e 15 = .int .i64 j) (fun e H=>w.length + 1 - natOf (e 15)) ?_ ?_
          · exact ⟨0,List.replicate (w.length + 1) false,by omega,by simp,rfl,hst,hout,by simp -dsimp (maxSteps:=999999) (disch:=omega) only[go_sem,simprocAttr, *,isD],gs,gs,gs,rfl⟩
          · clear hst hout
            rintro e Hx ⟨j,L,hj,hL,htk,hst,hout,e1,e2,e3,e7,e15⟩ R2 hR2
            have hv1:=jau hout (by omega)
            have hv2:=jau hst.fr (by omega)
            have hfr:=hst.fr
            repeat' (first | apply wz1|apply wz2|apply wz3|apply wz4|apply wz5|apply wz6 | simp -dsimp (maxSteps:=999999) (disch:=omega) only[go_sem,simprocAttr, *])
            refine wz7 (fun hb2=>?_) (fun hb2=>?_) <;> try simp -dsimp (maxSteps:=999999) (disch:=omega) only[go_sem,simprocAttr,decide_eq_true_eq,decide_eq_false_iff_not,Bool.not_eq_true,Bool.not_eq_false,Int.not_lt,Int.not_le] at hb2
            · have hlt : j < w.length + 1:=by omega
              have hx:=bs_at (l:=fl) (i:=j) (by omega)
              have hy:=bs_at (l:=L) (i:=j) (by omega)
              repeat' (first | apply wz1|apply wz2|apply wz3|apply wz4|apply wz5|apply wz6 | simp -dsimp (maxSteps:=999999) (disch:=omega) only[go_sem,simprocAttr, *])
              refine hR2 _ _ ⟨j + 1,L.set j fl[j],by omega,by simp [hL],take_set (by omega) htk (List.getElem?_eq_getElem (by omega)),?_,?_,gs,gs,gs,gs,gs⟩ ?_
              · exact hst.set (by omega)
              · rw [jbI];exact jad (jah hout)
              · simp -dsimp (maxSteps:=999999) (disch:=omega) only[go_sem,simprocAttr, *,jab]
            · rw [List.take_of_length_le (by omega),List.take_of_length_le (by omega)] at htk
              subst htk
              clear hR2 hv1 hv2 hfr hb2
              have hrx:=hst.rx
              repeat' (first | apply wz1|apply wz2|apply wz3|apply wz4|apply wz5|apply wz6 | simp -dsimp (maxSteps:=999999) (disch:=omega) only[go_sem,simprocAttr, *])
              refine jae (fun e Hx=>∃ (t : Nat) (M : List Bool),t <= w.length + 1 /\ M.length = w.length + 1 /\ St H Hx m q (rxD (.mk 5 s [kid])) L /\ hget Hx (m + 1) = .arr (bsD M) /\ e 1 = isD w /\ e 3 = .ptr m 0 0 /\ e 7 = .vec (m + 1) 0 (w.length + 1) /\ e 16 = .int .i64 t /\ G = roundsB (endsR w kid) true (w.length + 1 - t) M) (fun e H=>w.length + 1 - natOf (e 16)) ?_ ?_
              · exact ⟨0,L,by omega,hL,hst,hout,gs,gs,gs,rfl,hG.symm⟩
              · clear hst hout hrx hj
                rintro e Hx ⟨t,M,ht,hM,hst,hout,e1,e3,e7,e16,ha⟩ R2 hR2
                have hrx:=hst.rx
                repeat' (first | apply wz1|apply wz2|apply wz3|apply wz4|apply wz5|apply wz6 | simp -dsimp (maxSteps:=999999) (disch:=omega) only[go_sem,simprocAttr, *])
                refine wz7 (fun hb2=>?_) (fun hb2=>?_) <;> try simp -dsimp (maxSteps:=999999) (disch:=omega) only[go_sem,simprocAttr,decide_eq_true_eq,decide_eq_false_iff_not,Bool.not_eq_true,Bool.not_eq_false,Int.not_lt,Int.not_le] at hb2
                · rw [show w.length + 1 - t = (w.length - t) + 1 by omega] at ha
                  simp only [roundsB] at ha
                  repeat' (first | apply wz1|apply wz2|apply wz3|apply wz4|apply wz5|apply wz6 | simp -dsimp (maxSteps:=999999) (disch:=omega) only[go_sem,simprocAttr, *])
                  refine jag bo23 rfl rfl (ih kid hok1 hkd hsj M hM Hx (m + 1) hout) ?_ (fun _ _ h=>h.elim)
                  rintro _ Hy ⟨hsame,p',hp',rfl,hX⟩
                  have hXl:=jaB w kid M hM
                  generalize endsR w kid M = X at ha hX hXl
                  have hlx:=jah hout
                  have hst2:=hst.call hsame
                  have hout2 : hget Hy (m + 1) = .arr (bsD M):=by rw [hsame.2 _ hlx];exact hout
                  clear hst hout hrx
                  simp -dsimp (maxSteps:=999999) (disch:=omega) only[go_sem,simprocAttr, *]
                  repeat' (first | apply wz1|apply wz2|apply wz3|apply wz4|apply wz5|apply wz6 | simp -dsimp (maxSteps:=999999) (disch:=omega) only[go_sem,simprocAttr, *])
                  refine jae (fun e Hx=>∃ (i : Nat),i <= w.length + 1 /\ St H Hx m q (rxD (.mk 5 s [kid])) L /\ hget Hx (m + 1) = .arr (bsD (orL M X i)) /\ hget Hx p' = .arr (bsD X) /\ e 1 = isD w /\ e 3 = .ptr m 0 0 /\ e 7 = .vec (m + 1) 0 (w.length + 1) /\ e 16 = .int .i64 t /\ e 17 = .vec p' 0 (w.length + 1) /\ e 18 = .bool (moreL M X i) /\ e 19 = .int .i64 i) (fun e H=>w.length + 1 - natOf (e 19)) ?_ ?_
                  · exact ⟨0,by omega,hst2,by rw [jgm];exact hout2,hX,gs,gs,gs,gs,gs,by simp -dsimp (maxSteps:=999999) (disch:=omega) only[go_sem,simprocAttr, *];try rfl,rfl⟩
                  · clear hst2 hout2 hX
                    rintro e Hz ⟨i,hi,hst,hout,hX,e1,e3,e7,e16,e17,e18,e19⟩ R3 hR3
                    have hOl:=jhT hM hXl hi
                    have hv1:=jau hout (by omega)
                    have hv2:=jau hX (by omega)
                    repeat' (first | apply wz1|apply wz2|apply wz3|apply wz4|apply wz5|apply wz6 | simp -dsimp (maxSteps:=999999) (disch:=omega) only[go_sem,simprocAttr, *])
                    refine wz7 (fun hb3=>?_) (fun hb3=>?_) <;> try simp -dsimp (maxSteps:=999999) (disch:=omega) only[go_sem,simprocAttr,decide_eq_true_eq,decide_eq_false_iff_not,Bool.not_eq_true,Bool.not_eq_false,Int.not_lt,Int.not_le] at hb3
                    · have hy:=bs_at (l:=X) (i:=i) (by omega)
                      have hz : (bsD (orL M X i))[i]? = some (.bool M[i]):=by simp [bsD,jkS hM hXl (show i < w.length + 1 by omega)]
                      have hnext:=jgI hM hXl (show i < w.length + 1 by omega)
                      have hmore : moreL M X (i + 1) = (moreL M X i || (X[i] && !M[i])):=by simp [moreL,List.getD,show i < X.length by omega,show i < M.length by omega]
                      have hne : m + 1 ≠ p':=by omega
                      generalize moreL M X i = c at *
                      cases c <;> cases hXi : X[i] <;> cases hMi : M[i] <;>
                      (rw [hXi] at hy hnext hmore
                       rw [hMi] at hz hnext hmore
                       simp only [Bool.true_or,Bool.false_or,Bool.or_true,Bool.or_false,Bool.true_and,Bool.false_and,Bool.and_true,Bool.and_false,Bool.not_true,Bool.not_false] at hnext hmore
                       repeat' (first | apply wz1|apply wz2|apply wz3|apply wz4|apply wz5|apply wz6 | simp -dsimp (maxSteps:=999999) (disch:=omega) only[go_sem,simprocAttr, *])
                       refine hR3 _ _ ⟨i + 1,by omega,hst.set (by omega),by rw [hnext,<- jbI];exact jad (jah hout),by rw [jaa hne];exact hX,gs,gs,gs,gs,gs,gs,gs⟩ ?_
                       simp -dsimp (maxSteps:=999999) (disch:=omega) only[go_sem,simprocAttr, *,jab])
                    · have hii : i = w.length + 1:=by omega
                      subst hii
                      rw [jhM hM hXl] at hout
                      have hrx:=hst.rx
                      rw [if_pos (.inl trivial)] at ha
                      rw [ha] at hR
                      repeat' (first | apply wz1|apply wz2|apply wz3|apply wz4|apply wz5|apply wz6 | simp -dsimp (maxSteps:=999999) (disch:=omega) only[go_sem,simprocAttr, *])
                      refine wz7 (fun hb4=>?_) (fun hb4=>?_) <;> try simp -dsimp (maxSteps:=999999) (disch:=omega) only[go_sem,simprocAttr,decide_eq_true_eq,decide_eq_false_iff_not,Bool.not_eq_true,Bool.not_eq_false,Int.not_lt,Int.not_le] at hb4
                      repeat' (first | apply wz1|apply wz2|apply wz3|apply wz4|apply wz5|apply wz6 | simp -dsimp (maxSteps:=999999) (disch:=omega) only[go_sem,simprocAttr, *])
                      exact hR _ _ ⟨m + 1,by omega,gs,hout,hst.same⟩
                · rw [show w.length + 1 - t = 0 by omega] at ha
                  simp only [roundsB] at ha
                  rw [ha] at hR
                  repeat' (first | apply wz1|apply wz2|apply wz3|apply wz4|apply wz5|apply wz6 | simp -dsimp (maxSteps:=999999) (disch:=omega) only[go_sem,simprocAttr, *])
                  exact hR _ _ ⟨m + 1,by omega,gs,hout,hst.same⟩
        exfalso
        simp only [shapesR,Bool.and_eq_true] at hs
        have:=hs.1
        simp [shape1,h0,h1,h2,h3,hK,hL] at this
      · rintro e Hx ⟨p,hp,e7,hout,hs⟩
        repeat' (first | apply wz1|apply wz2|apply wz3|apply wz4|apply wz5|apply wz6 | simp -dsimp (maxSteps:=999999) (disch:=omega) only[go_sem,simprocAttr, *])
        exact ⟨by rw [hm];exact hs,p,by rw [hm];exact hp,rfl,hout⟩
end Go.Proofs.W
end
section
namespace Go.Proofs.W
open Go Vm Go.Proofs.Zso
mutual
theorem jgz : ∀ (r : Rx) (hs : shapesR r = true) (b : Bool),endsR [] r [b] = [b && emptyR r]
  | .mk k s l,hs,b=>by
    simp only [shapesR,Bool.and_eq_true] at hs
    have hs1:=hs.1
    simp only [endsR,emptyR]
    by_cases h0 : k = 0
    · subst h0;simp
    rw [if_neg h0]
    by_cases h1 : k = 1
    · subst h1;simp [stepB]
    rw [if_neg h1,if_neg h1]
    by_cases h2 : k = 2
    · subst h2;simp only [if_true];exact jgk l hs.2 b
    rw [if_neg h2,if_neg h2]
    by_cases h3 : k = 3
    · subst h3;simp only [if_true,List.length_nil,Nat.zero_add,List.replicate_one];rw [jgh l hs.2 b false];simp
    rw [if_neg h3,if_neg h3]
    by_cases h4 : k = 4 ∨ k = 5
    · rw [if_pos h4]
      simp only [Bool.and_true,List.length_nil,Nat.zero_add,roundsB]
      have:=jlt l hs.2 b
      obtain ⟨c,hc⟩:=this
      rw [hc]
      have : orB [b] [b && c] = [b]:=by cases b <;> simp [orB]
      rw [this];simp
    · simp [shape1,h0,h1,h2,h3,h4] at hs1
theorem jgk : ∀ (l : List Rx) (hs : shapesL l = true) (b : Bool),endsCat [] l [b] = [b && emptyR.emptyAll l]
  | [],hs,b=>by simp [endsCat,emptyR.emptyAll]
  | r :: l,hs,b=>by
    simp only [shapesL,Bool.and_eq_true] at hs
    simp only [endsCat,emptyR.emptyAll,jgz r hs.1,jgk l hs.2,Bool.and_assoc]
theorem jgh : ∀ (l : List Rx) (hs : shapesL l = true) (b a : Bool),endsAlt [] l [b] [a] = [a || (b && emptyR.emptyAny l)]
  | [],hs,b,a=>by simp [endsAlt,emptyR.emptyAny]
  | r :: l,hs,b,a=>by
    simp only [shapesL,Bool.and_eq_true] at hs
    simp only [endsAlt,emptyR.emptyAny,jgz r hs.1,orB,List.zipWith_cons_cons,List.zipWith_nil_left,jgh l hs.2,Bool.and_or_distrib_left,Bool.or_assoc]
theorem jlt : ∀ (l : List Rx) (hs : shapesL l = true) (b : Bool),∃ c,endsOne [] l [b] = [b && c]
  | [],hs,b=>⟨true,by simp [endsOne]⟩
  | r :: l,hs,b=>by
    simp only [shapesL,Bool.and_eq_true] at hs
    exact ⟨_,jgz r hs.1 b⟩
end
def startB (n : Nat) : List Bool:=true :: List.replicate n false
def hasR (w : List Int) (r : Rx) : Bool:=(endsR w r (startB w.length)).getD w.length false
theorem jcl (n : Nat) : (startB n).length = n + 1:=by simp [startB]
end Go.Proofs.W
end
section
namespace Go.Proofs.W
open Go Vm Go.Proofs.Zso
def listZ (k : Nat) (p : Nat -> Bool) : List Int:=((List.range k).filter p).map fun (i : Nat)=>(i : Int)
theorem jm5 {k : Nat} {p : Nat -> Bool} : listZ (k + 1) p = listZ k p ++ if p k then [(k : Int)] else []:=by
  unfold listZ
  rw [List.range_succ,List.filter_append,List.map_append]
  congr 1
  by_cases h : p k = true <;> simp [h]
theorem jiB (k : Nat) (p : Nat -> Bool) : (listZ k p).length <= k:=by
  have:=List.length_filter_le p (List.range k)
  simp [listZ] at this ⊢;exact this
theorem mem_listZ {k : Nat} {p : Nat -> Bool} {s : Int} : s ∈ listZ k p ↔ ∃ i,i < k /\ p i = true /\ s = i:=by
  simp only [listZ,List.mem_map,List.mem_filter,List.mem_range]
  exact ⟨fun ⟨a,⟨h1,h2⟩,h3⟩=>⟨a,h1,h2,h3.symm⟩,fun ⟨a,h1,h2,h3⟩=>⟨a,⟨h1,h2⟩,h3.symm⟩⟩
def hit (n : Nfa) (c : Int) (i : Nat) : Bool:=inB (n.set.getD i 0) c
def stepTo (n : Nfa) (c : Int) (p : Nat -> Bool) (j t : Nat) : Bool:=(List.range j).any fun i=>p i && hit n c i && decide (n.to.getD i 0 = (t : Int))
theorem je9 (c : Int) : bitZ 0 c = false:=by
  simp [bitZ,IntKind.wrap,IntKind.bits,IntKind.signed]
theorem jaX {n : Nfa} (h : rightN n = true) : 1 <= n.set.length /\ n.set.length <= 3300 /\ n.free.length = n.set.length /\ n.to.length = n.set.length /\ n.rule.length = n.set.length /\ ∀ i,i < n.set.length -> rowOk n i = true:=by
  simp only [rightN,Bool.and_eq_true,decide_eq_true_eq,allN_iff] at h
  exact ⟨h.1.1,h.1.2.1,h.1.2.2.1,h.1.2.2.2.1,h.1.2.2.2.2,fun i hi=>h.2 i (by omega) (by omega)⟩
theorem jpF {n : Nfa} (h : rightN n = true) {c : Int} {i : Nat} (hi : i < n.set.length) (hh : hit n c i = true) : 0 <= n.to.getD i 0 /\ n.to.getD i 0 < n.set.length:=by
  have:=(jaX h).2.2.2.2.2 i hi
  simp only [rowOk,Bool.and_eq_true,Bool.not_eq_true',Bool.and_eq_false_iff,decide_eq_false_iff_not] at this
  rcases this.1.1.1 with h1 | h1
  · have h1 : n.set.getD i 0 = 0:=by omega
    rw [hit,h1] at hh
    simp [inB,je9] at hh
  · exact isS_iff.1 (by simpa using h1)
end Go.Proofs.W
end
section
namespace Go.Proofs.W
open Go Vm Go.Proofs.Zso
theorem jvI {n : Nfa} {c s : Int} {j : Nat} (h0 : 0 <= c) (h1 : c < 16) (hs : n.set.getD j 0 = s) : hit n c j = bitZ s c:=by
  simp only [hit,inB,h0,h1,hs,decide_true,Bool.true_and]
def bestFrom (o : Int) (l : List Int) : Int:=l.foldl (fun o r=>if 0 <= r /\ (o < 0 ∨ r < o) then r else o) o
theorem jey {o r : Int} {l : List Int} : bestFrom o (r :: l) = bestFrom (if 0 <= r /\ (o < 0 ∨ r < o) then r else o) l:=rfl
theorem jcc : ∀ (l : List Int) (o : Int),-1 <= o -> -1 <= bestFrom o l /\ (∀ r ∈ l,0 <= r -> 0 <= bestFrom o l /\ bestFrom o l <= r) /\ (0 <= o -> 0 <= bestFrom o l /\ bestFrom o l <= o) /\ (bestFrom o l = o ∨ bestFrom o l ∈ l)
  | [],o,ho=>⟨ho,(fun r h=>by cases h),fun h=>⟨h,Int.le_refl _⟩,.inl rfl⟩
  | r :: l,o,ho=>by
    rw [jey]
    by_cases hc : 0 <= r /\ (o < 0 ∨ r < o)
    · rw [if_pos hc]
      obtain ⟨h1,h2,h3,h4⟩:=jcc l r (by omega)
      have h3':=h3 hc.1
      refine ⟨h1,fun x hx h0=>?_,fun h0=>by omega,?_⟩
      · rcases List.mem_cons.1 hx with rfl | hx
        · exact h3'
        · exact h2 x hx h0
      · rcases h4 with h4 | h4
        · exact .inr (by rw [h4];simp)
        · exact .inr (by simp [h4])
    · rw [if_neg hc]
      obtain ⟨h1,h2,h3,h4⟩:=jcc l o ho
      refine ⟨h1,fun x hx h0=>?_,h3,?_⟩
      · rcases List.mem_cons.1 hx with rfl | hx
        · have:=h3 (by omega)
          omega
        · exact h2 x hx h0
      · rcases h4 with h4 | h4
        · exact .inl h4
        · exact .inr (by simp [h4])
theorem juV {l : List Int} {v : Int} (h : (v = -1 /\ ∀ r ∈ l,r < 0) ∨ (0 <= v /\ v ∈ l /\ ∀ r ∈ l,0 <= r -> v <= r)) : bestFrom (-1) l = v:=by
  obtain ⟨h1,h2,h3,h4⟩:=jcc l (-1) (by omega)
  rcases h with ⟨rfl,h⟩ | ⟨h0,hm,hl⟩
  · rcases h4 with h4 | h4
    · exact h4
    · have:=h _ h4;omega
  · have h5:=h2 v hm h0
    rcases h4 with h4 | h4
    · omega
    · have:=hl _ h4 h5.1;omega
def endsZ (n : Nfa) (l : List Int) : Int:=bestFrom (-1) (l.map fun s=>n.rule.getD s.toNat 0)
end Go.Proofs.W
end
section
namespace Go.Proofs.W
open Go Vm Go.Proofs.Zso
inductive Reach (n : Nfa) (p : Nat -> Prop) : Nat -> Prop
  | base {s : Nat} : p s -> Reach n p s
  | step {s t : Nat} : Reach n p s -> (t : Int) ∈ n.free.getD s [] -> Reach n p t
noncomputable def clo (n : Nfa) (p : Nat -> Prop) (s : Nat) : Bool:=@decide (Reach n p s) (Classical.propDecidable _)
theorem clo_iff {n : Nfa} {p : Nat -> Prop} {s : Nat} : clo n p s = true ↔ Reach n p s:=by
  unfold clo;exact @decide_eq_true_iff _ (Classical.propDecidable _)
theorem jct {n : Nfa} (h : rightN n = true) {i : Nat} (hi : i < n.set.length) {x : Int} (hx : x ∈ n.free.getD i []) : 0 <= x /\ x < n.set.length:=by
  have:=(jaX h).2.2.2.2.2 i hi
  simp only [rowOk,Bool.and_eq_true,List.all_eq_true] at this
  exact isS_iff.1 (this.2 x hx)
theorem jxA {n : Nfa} (hn : rightN n = true) {p : Nat -> Prop} (hp : ∀ s,p s -> s < n.set.length) {q : Nat -> Bool} (h1 : ∀ s,s < n.set.length -> p s -> q s = true) (h2 : ∀ s,s < n.set.length -> q s = true -> Reach n p s)
    (h3 : ∀ s,s < n.set.length -> q s = true -> ∀ t : Nat,(t : Int) ∈ n.free.getD s [] -> q t = true) : ∀ s,s < n.set.length -> q s = clo n p s:=by
  have key : ∀ s,Reach n p s -> s < n.set.length /\ q s = true:=by
    intro s h
    induction h with
    | base h=>exact ⟨hp _ h,h1 _ (hp _ h) h⟩
    | step h ht ih=>
      have:=jct hn ih.1 ht
      exact ⟨by omega,h3 _ ih.1 ih.2 _ ht⟩
  intro s hs
  rw [Bool.eq_iff_iff,clo_iff]
  exact ⟨h2 s hs,fun h=>(key s h).2⟩
end Go.Proofs.W
end
section
namespace Go.Proofs.W
open Go Vm Go.Proofs.Zso
theorem jgT {q : Nat -> Bool} {t : Nat} : ∀ {k : Nat},t < k -> q t = false -> cntF (fun i=>if i = t then true else q i) k + 1 = cntF q k
  | 0,h,_=>by omega
  | k + 1,h,h2=>by
    simp only [cntF]
    by_cases e : t = k
    · subst e
      have : ∀ m,m <= t -> cntF (fun i=>if i = t then true else q i) m = cntF q m:=by
        intro m hm
        induction m with
        | zero=>rfl
        | succ m ih=>simp only [cntF,ih (by omega),show (m = t) = False from eq_false (by omega),if_false]
      have h3:=this t (Nat.le_refl _)
      simp only [h3,h2,if_true,Bool.false_eq_true,if_false]
    · have:=jgT (k:=k) (by omega) h2
      simp only [show (k = t) = False from eq_false (fun h=>e h.symm),if_false]
      omega
def goA : List D:=[.ptr 2 0 0,.ptr 3 0 0,.ptr 0 0 0,.ptr 4 0 0]
structure DS (n : Nfa) (k : Nat) (q : Nat -> Bool) (out : List Int) (d : D) (H : Heap) : Prop where
  h0 : hget H 0 = .arr [nfaD n]
  h1 : hget H 1 = .arr (tabD k q)
  h2 : hget H 2 = .arr [.vec 1 0 k]
  h3 : hget H 3 = .arr [d]
  hv : VecAt 5 d H (out.map (.int .i64))
  h4 : hget H 4 = .arr [.fn 109 goA]
structure OutOk (k : Nat) (q : Nat -> Bool) (out : List Int) : Prop where
  nodup : out.Nodup
  mem : ∀ x : Int,x ∈ out ↔ ∃ i,i < k /\ q i = true /\ x = i
  len : out.length + cntF q k = k
structure Went (n : Nfa) (k : Nat) (q q' : Nat -> Bool) (s : Nat) : Prop where
  keep : ∀ x,x < k -> q x = true -> q' x = true
  from' : ∀ x,x < k -> q' x = true -> q x = true ∨ Reach n (· = s) x
  new : ∀ x,x < k -> q' x = true -> q x = false -> ∀ t : Nat,(t : Int) ∈ n.free.getD x [] -> q' t = true
def GoPost (n : Nfa) (k : Nat) (s : Int) (q : Nat -> Bool) (H' : Heap) : Prop:=∃ q' out' d',DS n k q' out' d' H' /\ OutOk k q' out' /\ ((s < 0 ∨ k <= s) /\ q' = q ∨ (0 <= s /\ s < k /\ q' s.toNat = true /\ Went n k q q' s.toNat))
theorem go_ok (n : Nfa) (hn : rightN n = true) (hfl : ∀ l ∈ n.free,l.length <= 1000000) : ∀ (m : Nat) (s : Int) (q : Nat -> Bool) (out : List Int) (d : D) (H : Heap),cntF q n.set.length <= m -> DS n n.set.length q out d H -> OutOk n.set.length q out ->
    EvF Tryz.prog A 109 (.int .i64 s :: goA) H (fun _ H'=>GoPost n n.set.length s q H') (fun _ _=>False):=by
  obtain ⟨hk,hk2,hf,ht,hr,hrow⟩:=jaX hn
  have hfree:=fun i hi x hx=>jct hn (i:=i) hi (x:=x) hx
  generalize hkk : n.set.length = k at *
  intro m
  induction m using Nat.strongRecOn with
  | _ m ih=>
    rintro s q out d H hm ⟨h0,h1,h2,h3,hv,h4⟩ hout
    have hL:=jah h4
    obtain ⟨w1,w2,w3⟩:=hv.one
    have hol : out.length <= k:=by have:=hout.len;omega
    simp only [goA] at *
    refine jaj (n:=43) (rs:=[]) Tryz.func109 rfl rfl rfl rfl rfl rfl ?_
    by_cases c1 : 0 <= s
    · by_cases c2 : s < k
      · obtain ⟨t,rfl⟩ : ∃ t : Nat,s = t:=⟨s.toNat,by omega⟩
        have htk : t < k:=by omega
        cases hqt : q t with
        | true=>
          repeat' (first | apply wz1|apply wz2|apply wz3|apply wz4|apply wz5|apply wz6 | simp -dsimp (maxSteps:=999999) (disch:=omega) only[go_sem,simprocAttr, *] | ((first | refine wz8 ?_ ?_|refine wz9 ?_ ?_|refine wz7 ?_ ?_)<;>intro hh <;> (try replace hh:=vqs hh) <;> (try (exfalso;first | exact hh | omega))))
          exact ⟨q,out,d,⟨h0,h1,h2,h3,hv,h4⟩,hout,.inr ⟨c1,c2,by simpa using hqt,⟨fun _ _ h=>h,fun _ _ h=>.inl h,fun x hx h g=>by rw [h] at g;cases g⟩⟩⟩
        | false=>
          obtain ⟨d',H',ha,hv',hsm⟩:=jm0 (hv.setLow (k:=1) (o:=Ob.arr (tabD k fun i=>if i = t then true else q i)) (by omega)) (t : Int) (by omega)
          obtain ⟨v1,v2,v3⟩:=hv'.one
          simp only [List.length_set] at ha
          have hL' : 5 <= H'.length:=hv'.1
          have hs0:=hsm.2 0 (by omega)
          have hs1:=hsm.2 1 (by omega)
          have hs2:=hsm.2 2 (by omega)
          have hs3:=hsm.2 3 (by omega)
          have hs4:=hsm.2 4 (by omega)
          rw [jaa (by omega)] at hs0 hs2 hs3 hs4
          rw [jad (by omega)] at hs1
          obtain ⟨fr,hf1,hf2⟩:=ex_at (l:=n.free) (i:=t) [] (by omega)
          have hfx:=hfree t htk
          rw [hf2] at hfx
          have hfrl:=hfl fr (List.mem_of_getElem? hf1)
          repeat' (first | apply wz1|apply wz2|apply wz3|apply wz4|apply wz5|apply wz6 | simp -dsimp (maxSteps:=999999) (disch:=omega) only[go_sem,simprocAttr, *,nfaD,issD,isD] | ((first | refine wz8 (fun hh=>?_) (fun hh=>?_) | refine wz9 (fun hh=>?_) (fun hh=>?_) | refine jak (by simp -dsimp (maxSteps:=999999) (disch:=omega) only[go_sem,simprocAttr, *,nfaD,issD,isD];exact rfl) (fun hh=>?_) (fun hh=>?_)) <;> (try replace hh:=vqs hh) <;> (try (exfalso;first | exact hh | omega))))
          have ho1 : OutOk k (fun i=>if i = t then true else q i) (out ++ [(t : Int)]):=by
            refine ⟨?_,fun x=>?_,?_⟩
            · rw [List.nodup_append]
              refine ⟨hout.nodup,by simp,fun x hx y hy e=>?_⟩
              obtain ⟨i,i1,i2,i3⟩:=(hout.mem x).1 hx
              have : i = t:=by simp at hy;omega
              subst this;rw [hqt] at i2;cases i2
            · rw [List.mem_append,hout.mem]
              constructor
              · rintro (⟨i,i1,i2,i3⟩ | hx)
                · refine ⟨i,i1,?_,i3⟩
                  show (if i = t then true else q i) = true
                  rw [i2];simp
                · exact ⟨t,htk,by simp,by simpa using hx⟩
              · rintro ⟨i,i1,i2,i3⟩
                by_cases e : i = t
                · subst e;exact .inr (by simp [i3])
                · simp only [e,if_false] at i2
                  exact .inl ⟨i,i1,i2,i3⟩
            · have:=jgT htk hqt
              have h9:=hout.len
              simp only [List.length_append,List.length_cons,List.length_nil]
              omega
          refine jae (fun e H=>∃ (j : Nat) (qj : Nat -> Bool) (outj : List Int) (dj : D),j <= fr.length /\ DS n k qj outj dj H /\ OutOk k qj outj /\ e 4 = .ptr 4 0 0 /\ e 33 = isD fr /\ e 34 = .int .i64 fr.length /\ e 35 = .int .i64 j /\ (∀ x,x < k -> (if x = t then true else q x) = true -> qj x = true)
            /\ (∀ x,x < k -> qj x = true -> (if x = t then true else q x) = true ∨ Reach n (· = t) x) /\ (∀ x,x < k -> qj x = true -> (if x = t then true else q x) = false -> ∀ y : Nat,(y : Int) ∈ n.free.getD x [] -> qj y = true) /\ ∀ y : Nat,(y : Int) ∈ fr.take j -> qj y = true) (fun e H=>fr.length - natOf (e 35)) ?_ ?_
          · refine ⟨0,_,out ++ [(t : Int)],d',by omega,⟨by rw [jaa (by omega)];rw [hs0,h0],by rw [jaa (by omega)];exact hs1,by rw [jaa (by omega)];rw [hs2,h2],by rw [jad (by omega)],hv'.setLow (by omega),by rw [jaa (by omega)];rw [hs4,h4];rfl⟩,ho1,gs,by simp -dsimp (maxSteps:=999999) (disch:=omega) only[go_sem,simprocAttr, *,isD],gs,gs,fun _ _ h=>h,fun _ _ h=>.inl h,fun x _ h g=>?_,fun y hy=>by simp at hy⟩
            have h' : (if x = t then true else q x) = true:=h
            rw [h'] at g;cases g
          clear hs0 hs1 hs2 hs3 hs4 ha hv' hsm v1 v2 v3 h0 h1 h2 h3 h4 hv w1 w2 w3 ho1
          rintro e Hj ⟨j,qj,outj,dj,hj,hds,hoj,e4,e33,e34,e35,g1,g2,g3,g4⟩ R hR
          have h4:=hds.h4
          simp only [goA] at h4
          by_cases hb : j < fr.length
          · have hfj:=hfx fr[j] (List.getElem_mem hb)
            obtain ⟨y,hy⟩ : ∃ y : Nat,fr[j] = (y : Int):=⟨fr[j].toNat,by omega⟩
            have hcnt : cntF qj k < m:=by
              have h5:=jgT htk hqt
              have h6:=jmQ (k:=k) g1
              omega
            have hcall:=ih _ hcnt (y : Int) qj outj dj Hj (Nat.le_refl _) hds hoj
            repeat' (first | apply wz1|apply wz2|apply wz3|apply wz4|apply wz5|apply wz6 | simp -dsimp (maxSteps:=999999) (disch:=omega) only[go_sem,simprocAttr, *,isD] | ((first | refine wz8 (fun hh=>?_) (fun hh=>?_) | refine wz9 (fun hh=>?_) (fun hh=>?_) | refine jak (by simp -dsimp (maxSteps:=999999) (disch:=omega) only[go_sem,simprocAttr, *,isD];exact rfl) (fun hh=>?_) (fun hh=>?_)) <;> (try replace hh:=vqs hh) <;> (try (exfalso;first | exact hh | omega))))
            refine jag bo109 rfl rfl hcall ?_ (fun _ _ h=>h.elim)
            rintro _ H2 ⟨q2,out2,d2,hd2,ho2,hw⟩
            repeat' (first | apply wz1|apply wz2|apply wz3|apply wz4|apply wz5|apply wz6 | simp -dsimp (maxSteps:=999999) (disch:=omega) only[go_sem,simprocAttr, *] | ((first | refine wz8 ?_ ?_|refine wz9 ?_ ?_|refine wz7 ?_ ?_)<;>intro hh <;> (try replace hh:=vqs hh) <;> (try (exfalso;first | exact hh | omega))))
            rcases hw with ⟨h7,-⟩ | ⟨h7,h8,h9,hw⟩
            · omega
            · rw [Int.toNat_natCast] at h9 hw
              have hyk : y < k:=by omega
              have hyf : (y : Int) ∈ n.free.getD t []:=by rw [hf2,<- hy];exact List.getElem_mem hb
              have hfrom : ∀ x,Reach n (· = y) x -> Reach n (· = t) x:=by
                intro x hx
                induction hx with
                | base h=>subst h;exact .step (.base rfl) hyf
                | step _ h ih=>exact .step ih h
              refine hR _ _ ⟨j + 1,q2,out2,d2,by omega,hd2,ho2,gs,by simp -dsimp (maxSteps:=999999) (disch:=omega) only[go_sem,simprocAttr, *,isD],gs,gs,fun x hx h=>hw.keep x hx (g1 x hx h),fun x hx h=>?_,fun x hx h g z hz=>?_,fun z hz=>?_⟩ ?_
              · rcases hw.from' x hx h with h | h
                · exact g2 x hx h
                · exact .inr (hfrom x h)
              · cases hq : qj x with
                | true=>
                  have hzk:=hfree x hx z hz
                  exact hw.keep z (by omega) (g3 x hx hq g z hz)
                | false=>exact hw.new x hx h hq z hz
              · rw [ja1 hb,List.mem_append] at hz
                rcases hz with hz | hz
                · have hzk:=hfx z (List.mem_of_mem_take hz)
                  exact hw.keep z (by omega) (g4 z hz)
                · have : z = y:=by simp [hy] at hz;omega
                  subst this;exact h9
              · simp -dsimp (maxSteps:=999999) (disch:=omega) only[go_sem,simprocAttr, *,jab]
          · repeat' (first | apply wz1|apply wz2|apply wz3|apply wz4|apply wz5|apply wz6 | simp -dsimp (maxSteps:=999999) (disch:=omega) only[go_sem,simprocAttr, *] | ((first | refine wz8 ?_ ?_|refine wz9 ?_ ?_|refine wz7 ?_ ?_)<;>intro hh <;> (try replace hh:=vqs hh) <;> (try (exfalso;first | exact hh | omega))))
            refine ⟨qj,outj,dj,hds,hoj,.inr ⟨c1,c2,by simpa using g1 t htk (by simp),⟨fun x hx h=>g1 x hx (by rw [h];simp),fun x hx h=>?_,fun x hx h g z hz=>?_⟩⟩⟩
            · rcases g2 x hx h with h | h
              · by_cases e : x = t
                · subst e;exact .inr (.base (by simp))
                · rw [if_neg e] at h;exact .inl h
              · exact .inr (by simpa using h)
            · by_cases e : x = t
              · subst e
                rw [hf2] at hz
                exact g4 z (by rw [List.take_of_length_le (by omega)];exact hz)
              · exact g3 x hx h (by rw [if_neg e];exact g) z hz
      · repeat' (first | apply wz1|apply wz2|apply wz3|apply wz4|apply wz5|apply wz6 | simp -dsimp (maxSteps:=999999) (disch:=omega) only[go_sem,simprocAttr, *] | ((first | refine wz8 ?_ ?_|refine wz9 ?_ ?_|refine wz7 ?_ ?_)<;>intro hh <;> (try replace hh:=vqs hh) <;> (try (exfalso;first | exact hh | omega))))
        exact ⟨q,out,d,⟨h0,h1,h2,h3,hv,h4⟩,hout,.inl ⟨.inr (by omega),rfl⟩⟩
    · repeat' (first | apply wz1|apply wz2|apply wz3|apply wz4|apply wz5|apply wz6 | simp -dsimp (maxSteps:=999999) (disch:=omega) only[go_sem,simprocAttr, *] | ((first | refine wz8 ?_ ?_|refine wz9 ?_ ?_|refine wz7 ?_ ?_)<;>intro hh <;> (try replace hh:=vqs hh) <;> (try (exfalso;first | exact hh | omega))))
      exact ⟨q,out,d,⟨h0,h1,h2,h3,hv,h4⟩,hout,.inl ⟨.inl (by omega),rfl⟩⟩
end Go.Proofs.W
end
section
namespace Go.Proofs.W
open Go Vm Go.Proofs.Zso
theorem jby : ∀ {l l' : List Int},l.Pairwise (· < ·) -> l'.Pairwise (· < ·) -> (∀ x,x ∈ l ↔ x ∈ l') -> l = l'
  | [],[],_,_,_=>rfl
  | [],y :: t',_,_,h=>by have:=(h y).2 (by simp);cases this
  | x :: t,[],_,_,h=>by have:=(h x).1 (by simp);cases this
  | x :: t,y :: t',h1,h2,h=>by
    have a1:=List.pairwise_cons.1 h1
    have a2:=List.pairwise_cons.1 h2
    have hx:=(h x).1 (by simp)
    have hy:=(h y).2 (by simp)
    have e : x = y:=by
      rcases List.mem_cons.1 hx with e | hx
      · exact e
      · rcases List.mem_cons.1 hy with e | hy
        · exact e.symm
        · have:=a1.1 y hy
          have:=a2.1 x hx
          omega
    subst e
    refine congrArg (x :: ·) (jby a1.2 a2.2 fun z=>⟨fun hz=>?_,fun hz=>?_⟩)
    · rcases List.mem_cons.1 ((h z).1 (List.mem_cons_of_mem _ hz)) with rfl | hz'
      · have:=a1.1 _ hz;omega
      · exact hz'
    · rcases List.mem_cons.1 ((h z).2 (List.mem_cons_of_mem _ hz)) with rfl | hz'
      · have:=a2.1 _ hz;omega
      · exact hz'
theorem jbs (k : Nat) (p : Nat -> Bool) : (listZ k p).Pairwise (· < ·):=by
  induction k with
  | zero=>simp [listZ]
  | succ k ih=>
    rw [jm5]
    cases hp : p k with
    | false=>simpa using ih
    | true=>
      simp only [if_true,List.pairwise_append]
      refine ⟨ih,by simp,fun x hx y hy=>?_⟩
      obtain ⟨i,h1,h2,h3⟩:=mem_listZ.1 hx
      simp at hy;omega
theorem jrF {l : List Int} (h : l.Pairwise (· <= ·)) (hn : l.Nodup) : l.Pairwise (· < ·):=by
  have:=List.pairwise_and_iff.2 ⟨h,hn⟩
  exact this.imp fun h=>by have:=h.1;have:=h.2;omega
theorem jnn {k : Nat} {q : Nat -> Bool} {out : List Int} (h : OutOk k q out) : sortZ out = listZ k q:=by
  refine jby (jrF (jdh out) ((jbW out).nodup_iff.2 h.nodup)) (jbs k q) fun x=>?_
  rw [(jbW out).mem_iff,h.mem,mem_listZ]
theorem jeL (d : Array Int) (hd : ∀ i j,i <= j -> j < d.size -> d[i]! <= d[j]!) : ∀ m,m <= d.size -> (Lib.compactUpTo d m).Pairwise (· < ·) /\ ∀ x,x ∈ Lib.compactUpTo d m ↔ ∃ j,j < m /\ d[j]! = x
  | 0,_=>by simp [Lib.compactUpTo]
  | m + 1,hm=>by
    obtain ⟨h1,h2⟩:=jeL d hd m (by omega)
    rw [Lib.compactUpTo_succ]
    cases hk : Lib.keeps d m with
    | true=>
      simp only [if_true]
      have hlt : ∀ j,j < m -> d[j]! < d[m]!:=by
        intro j hj
        simp only [Lib.keeps,decide_eq_true_eq] at hk
        have:=hd j (m - 1) (by omega) (by omega)
        have:=hd (m - 1) m (by omega) (by omega)
        rcases hk with hk | hk
        · omega
        · omega
      refine ⟨List.pairwise_append.2 ⟨h1,by simp,fun x hx y hy=>?_⟩,fun x=>?_⟩
      · obtain ⟨j,j1,j2⟩:=(h2 x).1 hx
        have:=hlt j j1
        simp at hy;omega
      · rw [List.mem_append,h2]
        constructor
        · rintro (⟨j,j1,j2⟩ | hx)
          · exact ⟨j,by omega,j2⟩
          · exact ⟨m,by omega,by simpa using Eq.symm (by simpa using hx)⟩
        · rintro ⟨j,j1,j2⟩
          by_cases e : j = m
          · subst e;exact .inr (by simp [<- j2])
          · exact .inl ⟨j,by omega,j2⟩
    | false=>
      simp only [Bool.false_eq_true,if_false,List.append_nil]
      refine ⟨h1,fun x=>?_⟩
      rw [h2]
      simp only [Lib.keeps,decide_eq_false_iff_not,not_or,Decidable.not_not] at hk
      constructor
      · rintro ⟨j,j1,j2⟩;exact ⟨j,by omega,j2⟩
      · rintro ⟨j,j1,j2⟩
        by_cases e : j = m
        · subst e;exact ⟨j - 1,by omega,by rw [<- hk.2];exact j2⟩
        · exact ⟨j,by omega,j2⟩
theorem jw7 {l : List Int} (h : l.Pairwise (· <= ·)) (i j : Nat) (hij : i <= j) (hj : j < l.toArray.size) : l.toArray[i]! <= l.toArray[j]!:=by
  simp at hj
  rw [getElem!_pos l.toArray i (by simp;omega),getElem!_pos l.toArray j (by simpa using hj)]
  simp
  by_cases e : i = j
  · subst e;exact Int.le_refl _
  · exact List.pairwise_iff_getElem.1 h i j (by omega) hj (by omega)
theorem jhO (zs : List Int) : (Lib.compact (sortZ zs)).Pairwise (· < ·) /\ ∀ x,x ∈ Lib.compact (sortZ zs) ↔ x ∈ zs:=by
  have hs:=jdh zs
  obtain ⟨h1,h2⟩:=jeL (sortZ zs).toArray (jw7 hs) (sortZ zs).length (by simp)
  refine ⟨h1,fun x=>?_⟩
  rw [<- (jbW zs).mem_iff]
  show x ∈ Lib.compactUpTo _ _ ↔ _
  rw [h2,List.mem_iff_getElem]
  constructor
  · rintro ⟨j,j1,j2⟩
    exact ⟨j,j1,by rw [<- j2,getElem!_pos (sortZ zs).toArray j (by simpa using j1)];simp⟩
  · rintro ⟨j,j1,j2⟩
    exact ⟨j,j1,by rw [<- j2,getElem!_pos (sortZ zs).toArray j (by simpa using j1)];simp⟩
theorem jdP (zs : List Int) : (Lib.compact zs).length <= zs.length:=by
  unfold Lib.compact Lib.compactUpTo
  have:=List.length_filter_le (Lib.keeps zs.toArray) (List.range zs.length)
  simpa using this
theorem je0 (zs : List Int) : (sortZ zs).length = zs.length:=(jbW zs).length_eq
theorem jkx {m : Nat} {d : D} {H : Heap} {zs : List Int} (h : VecAt m d H (zs.map (.int .i64))) (hl : zs.length <= 1000000) : ∃ H',pSort [d] H = some (.ok (.tup []) H') /\ VecAt m d H' ((sortZ zs).map (.int .i64)) /\ Same m H H':=by
  obtain ⟨h0,h | ⟨h1,r,h2,h3,h4,h5⟩⟩:=h
  · obtain ⟨h1,rfl⟩:=h
    obtain rfl : zs = []:=by simpa using h1
    exact ⟨H,rfl,⟨h0,.inl ⟨rfl,rfl⟩⟩,Same.refl⟩
  · have hz : zs ≠ []:=by simpa using h1
    subst h4
    refine ⟨H.set r (.arr ((sortZ zs).map (.int .i64))),?_,⟨by simpa using h0,.inr ⟨?_,r,h2,by simpa using h3,?_,jad h3⟩⟩,Same.set h2⟩
    · simp only [pSort,h5,jik,Option.bind_some]
      rw [if_pos ⟨by simp,by omega,by cases zs with | nil=>exact absurd rfl hz | cons a b=>simp⟩]
    · have:=je0 zs
      intro e
      have e2 : sortZ zs = []:=by simpa using e
      rw [e2] at this
      cases zs with
      | nil=>exact hz rfl
      | cons a b=>simp at this
    · simp [je0]
theorem jlQ {m : Nat} {d : D} {H : Heap} {zs : List Int} (h : VecAt m d H (zs.map (.int .i64))) (hl : zs.length <= 1000000) : ∃ d' H',pCompact [d] H = some (.ok d' H') /\ outPure H' d' = some (isD (Lib.compact zs)) /\ Same m H H':=by
  obtain ⟨h0,h | ⟨h1,r,h2,h3,h4,h5⟩⟩:=h
  · obtain ⟨h1,rfl⟩:=h
    obtain rfl : zs = []:=by simpa using h1
    exact ⟨_,H,rfl,rfl,Same.refl⟩
  · have hz : zs ≠ []:=by simpa using h1
    subst h4
    refine ⟨.vec r 0 (Lib.compact zs).length,H.set r (.arr ((compactZ zs).map (.int .i64))),?_,?_,Same.set h2⟩
    · simp only [pCompact,h5,jik,Option.bind_some]
      rw [if_pos ⟨by simp,by omega,by cases zs with | nil=>exact absurd rfl hz | cons a b=>simp,jdP zs⟩]
    · unfold outPure deepest
      rw [jdZ,jad h3]
      have hcl : (compactZ zs).length = zs.length:=by have:=jdP zs;simp [compactZ];omega
      have htk : (((compactZ zs).map (D.int .i64)).drop 0).take (Lib.compact zs).length = (Lib.compact zs).map (.int .i64):=by
        rw [List.drop_zero,<- List.map_take]
        congr 1
        simp [compactZ]
      have hle:=jdP zs
      simp only [Nat.zero_add,List.length_map,hcl,if_pos hle,htk]
      rw [jbd (jaM _)]
      rfl
end Go.Proofs.W
end
section
namespace Go.Proofs.W
open Go Vm Go.Proofs.Zso
def inS (k : Nat) (l : List Int) (s : Nat) : Prop:=s < k /\ (s : Int) ∈ l
theorem Reach.sub {n : Nfa} {p p' : Nat -> Prop} {x : Nat} (h : Reach n p x) (hp : ∀ s,p s -> Reach n p' s) : Reach n p' x:=by
  induction h with
  | base h=>exact hp _ h
  | step _ h ih=>exact .step ih h
theorem jqB (n : Nfa) (l : List Int) (hn : rightN n = true) (hfl : ∀ l ∈ n.free,l.length <= 1000000) (hl : l.length <= 1000000) : PureF Tryz.prog A 90 [nfaD n,isD l] (isD (listZ n.set.length (clo n (inS n.set.length l)))):=by
  have hgo:=go_ok n hn hfl
  have hrr:=jaX hn
  have hk:=hrr.1
  have hk2:=hrr.2.1
  have hfree:=fun i hi x hx=>jct hn (i:=i) hi (x:=x) hx
  have hceq:=fun q=>jxA hn (p:=inS n.set.length l) (fun s h=>h.1) (q:=q)
  have hmk : ∀ H,makeSliceD Tryz.prog 77 (.int .i64 n.set.length) (.int .i64 n.set.length) H = some (.vec H.length 0 n.set.length,H ++ [.arr (tabD n.set.length fun _=>false)]):=fun H=>jmU hk (by omega)
  generalize hkk : n.set.length = k at *
  refine jaj (n:=28) (rs:=[.tmp 4]) Tryz.func90 rfl rfl rfl rfl rfl rfl ?_
  repeat' (first | apply wz1|apply wz2|apply wz3|apply wz4|apply wz5|apply wz6 | simp -dsimp (maxSteps:=999999) (disch:=omega) only[go_sem,simprocAttr, *,nfaD,u16D,isD] | ((first | refine wz8 (fun hh=>?_) (fun hh=>?_) | refine wz9 (fun hh=>?_) (fun hh=>?_) | refine jak (by simp -dsimp (maxSteps:=999999) (disch:=omega) only[go_sem,simprocAttr, *,nfaD,u16D,isD];exact rfl) (fun hh=>?_) (fun hh=>?_)) <;> (try replace hh:=vqs hh) <;> (try (exfalso;first | exact hh | omega))))
  let I : Nat -> Env -> Heap -> Prop:=fun j e H=>∃ (q : Nat -> Bool) (out : List Int) (d : D),DS n k q out d H /\ OutOk k q out /\ e 6 = .ptr 3 0 0 /\ e 7 = .ptr 4 0 0 /\ e 15 = isD l /\ e 16 = .int .i64 l.length /\ e 17 = .int .i64 j
    /\ (∀ x,x < k -> q x = true -> Reach n (inS k l) x) /\ (∀ x,x < k -> q x = true -> ∀ y : Nat,(y : Int) ∈ n.free.getD x [] -> q y = true) /\ (∀ y : Nat,y < k -> (y : Int) ∈ l.take j -> q y = true)
  refine jae (fun e H=>∃ j,j <= l.length /\ I j e H) (fun e H=>l.length - natOf (e 17)) ?_ ?_
  · refine ⟨0,by omega,fun _=>false,[],.sl true [],⟨rfl,rfl,rfl,rfl,VecAt.nil (by simp),rfl⟩,⟨by simp,by simp,?_⟩,gs,gs,by simp -dsimp (maxSteps:=999999) (disch:=omega) only[go_sem,simprocAttr, *,isD],by simp -dsimp (maxSteps:=999999) (disch:=omega) only[go_sem,simprocAttr, *,isD],gs,by simp,by simp,fun y _ h=>by simp at h⟩
    have : ∀ m,cntF (fun _=>false) m = m:=fun m=>by
      induction m with
      | zero=>rfl
      | succ m ih=>simp [cntF,ih]
    simp [this]
  · rintro e H ⟨j,hj,q,out,d,hds,hout,e6,e7,e15,e16,e17,g1,g2,g3⟩ R hR
    have h4:=hds.h4
    have h3:=hds.h3
    simp only [goA] at h4
    by_cases hb : j < l.length
    · have hcall:=hgo _ l[j] q out d H (Nat.le_refl _) hds hout
      simp only [goA] at hcall
      repeat' (first | apply wz1|apply wz2|apply wz3|apply wz4|apply wz5|apply wz6 | simp -dsimp (maxSteps:=999999) (disch:=omega) only[go_sem,simprocAttr, *,isD] | ((first | refine wz8 (fun hh=>?_) (fun hh=>?_) | refine wz9 (fun hh=>?_) (fun hh=>?_) | refine jak (by simp -dsimp (maxSteps:=999999) (disch:=omega) only[go_sem,simprocAttr, *,isD];exact rfl) (fun hh=>?_) (fun hh=>?_)) <;> (try replace hh:=vqs hh) <;> (try (exfalso;first | exact hh | omega))))
      refine jag bo109 rfl rfl hcall ?_ (fun _ _ h=>h.elim)
      rintro _ H2 ⟨q2,out2,d2,hd2,ho2,hw⟩
      repeat' (first | apply wz1|apply wz2|apply wz3|apply wz4|apply wz5|apply wz6 | simp -dsimp (maxSteps:=999999) (disch:=omega) only[go_sem,simprocAttr, *] | ((first | refine wz8 ?_ ?_|refine wz9 ?_ ?_|refine wz7 ?_ ?_)<;>intro hh <;> (try replace hh:=vqs hh) <;> (try (exfalso;first | exact hh | omega))))
      rcases hw with ⟨h7,rfl⟩ | ⟨h7,h8,h9,hw⟩
      · refine hR _ _ ⟨j + 1,by omega,q2,out2,d2,hd2,ho2,gs,gs,gs,gs,gs,g1,g2,fun y hy hyl=>?_⟩ ?_
        · rw [ja1 hb,List.mem_append] at hyl
          rcases hyl with h | h
          · exact g3 y hy h
          · simp at h;omega
        · simp -dsimp (maxSteps:=999999) (disch:=omega) only[go_sem,simprocAttr, *,jab]
      · obtain ⟨y,hy⟩ : ∃ y : Nat,l[j] = (y : Int):=⟨l[j].toNat,by omega⟩
        rw [hy,Int.toNat_natCast] at h9 hw
        have hyS : inS k l y:=⟨by omega,by rw [<- hy];exact List.getElem_mem hb⟩
        refine hR _ _ ⟨j + 1,by omega,q2,out2,d2,hd2,ho2,gs,gs,gs,gs,gs,fun x hx h=>?_,fun x hx h z hz=>?_,fun z hz hzl=>?_⟩ ?_
        · rcases hw.from' x hx h with h | h
          · exact g1 x hx h
          · exact h.sub fun z hz=>by subst hz;exact .base hyS
        · cases hq : q x with
          | true=>exact hw.keep z (by have:=hfree x hx z hz;omega) (g2 x hx hq z hz)
          | false=>exact hw.new x hx h hq z hz
        · rw [ja1 hb,List.mem_append] at hzl
          rcases hzl with h | h
          · exact hw.keep z hz (g3 z hz h)
          · obtain rfl : z = y:=by simp [hy] at h;omega
            exact h9
        · simp -dsimp (maxSteps:=999999) (disch:=omega) only[go_sem,simprocAttr, *,jab]
    · obtain ⟨H3,hs1,hs2,hs3⟩:=jkx hds.hv (by have:=hout.len;omega)
      have h33:=hs3.2 3 (by omega)
      rw [h3] at h33
      obtain ⟨w1,w2,w3⟩:=hds.hv.one
      repeat' (first | apply wz1|apply wz2|apply wz3|apply wz4|apply wz5|apply wz6 | simp -dsimp (maxSteps:=999999) (disch:=omega) only[go_sem,simprocAttr, *] | ((first | refine wz8 ?_ ?_|refine wz9 ?_ ?_|refine wz7 ?_ ?_)<;>intro hh <;> (try replace hh:=vqs hh) <;> (try (exfalso;first | exact hh | omega))))
      refine jdp bo110 rfl hs1 ?_
      repeat' (first | apply wz1|apply wz2|apply wz3|apply wz4|apply wz5|apply wz6 | simp -dsimp (maxSteps:=999999) (disch:=omega) only[go_sem,simprocAttr, *] | ((first | refine wz8 ?_ ?_|refine wz9 ?_ ?_|refine wz7 ?_ ?_)<;>intro hh <;> (try replace hh:=vqs hh) <;> (try (exfalso;first | exact hh | omega))))
      rw [hs2.out (jaM _),jnn hout]
      have he : listZ k q = listZ k (clo n (inS k l)):=by
        have:=hceq q (fun s _ h=>g3 s h.1 (by rw [List.take_of_length_le (by omega)];exact h.2)) g1 g2
        unfold listZ
        congr 1
        exact List.filter_congr fun s hs=>this s (by simpa using hs)
      rw [he];rfl
end Go.Proofs.W
end
