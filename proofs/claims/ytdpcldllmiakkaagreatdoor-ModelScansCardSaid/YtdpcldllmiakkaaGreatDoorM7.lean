/- Texts that stand behind this claim, one after the other. -/
import Derived.Test.YtdpcldllmiakkaaGreatDoorM6
set_option maxHeartbeats 4000000
set_option linter.unusedVariables false
set_option linter.unusedSimpArgs false
section
namespace Go.Proofs.W
open Go Vm Go.Proofs.Zs25
mutual
def depth : Rx → Nat
  | .mk _ _ l=>depthL l + 1
def depthL : List Rx → Nat
  | []=>0
  | r :: l=>max (depth r) (depthL l)
end
mutual
def nodesR : Rx → Nat
  | .mk _ _ l=>nodesL 1 l
def nodesL : Nat → List Rx → Nat
  | n,[]=>n
  | n,r :: l=>if n < 101 then nodesL (n + nodesR r) l else n
end
theorem nodesL_stop {n : Nat} (h : 101 ≤ n) : ∀ l : List Rx,nodesL n l = n
  | []=>rfl
  | r :: l=>by simp only [nodesL];rw [if_neg (by omega)]
mutual
theorem nodes_le : ∀ r : Rx,nodesR r ≤ 100 * depth r + 1
  | .mk _ _ l=>by
    have:=nodesL_le l 1 (by omega)
    simp only [nodesR,depth];omega
theorem nodesL_le : ∀ (l : List Rx) (n : Nat),n ≤ 100 * depthL l + 101 → nodesL n l ≤ 100 * depthL l + 101
  | [],n,h=>by simpa [nodesL] using h
  | r :: l,n,h=>by
    simp only [nodesL,depthL] at h ⊢
    have h1:=nodes_le r
    split
    · rcases Nat.lt_or_ge (n + nodesR r) 101 with h2 | h2
      · have:=nodesL_le l (n + nodesR r) (by omega)
        omega
      · rw [nodesL_stop h2];omega
    · omega
end
theorem depth_kid {k s : Int} {l : List Rx} {r : Rx} (h : r ∈ l) : depth r < depth (.mk k s l):=by
  have : ∀ l : List Rx,r ∈ l → depth r ≤ depthL l:=by
    intro l
    induction l with
    | nil=>intro h;cases h
    | cons x l ih=>
      intro h
      simp only [depthL]
      rcases List.mem_cons.1 h with rfl | h
      · omega
      · have:=ih h;omega
  have:=this l h
  simp only [depth];omega
def shape1 (k s : Int) (n : Nat) : Bool:=
  if k = 0 then n == 0 && s == 0 else if k = 1 then n == 0 && decide (0 < s) else if k = 2 ∨ k = 3 then decide (0 < n) && s == 0 else if k = 4 ∨ k = 5 then n == 1 && s == 0 else false
theorem beqN_true {a b : Nat} (h : a = b) : (a == b) = true:=by simp [h]
theorem beqN_false {a b : Nat} (h : ¬ a = b) : (a == b) = false:=by simp [h]
theorem or_false1 {p q : Prop} (h : ¬ p) (g : ¬ q) : (p ∨ q) = False:=by simp [h,g]
theorem eqZ_false {a b : Int} (h : ¬ a = b) : (a = b) = False:=by simp [h]
mutual
def shapesR : Rx → Bool
  | .mk k s l=>shape1 k s l.length && shapesL l
def shapesL : List Rx → Bool
  | []=>true
  | r :: l=>shapesR r && shapesL l
end
theorem shapesL_eq (l : List Rx) : shapesL l = l.all shapesR:=by
  induction l with
  | nil=>rfl
  | cons r l ih=>simp [shapesL,ih]
end Go.Proofs.W
end
section
namespace Go.Proofs.W
open Go Vm Go.Proofs.Zs25
def rightR (r : Rx) : Bool:=decide (depth r ≤ 12) && decide (nodesR r ≤ 100) && shapesR r
theorem shape_ok (r : Rx) (hr : okR r) : PureF Tryz.prog A 113 [rxD r] (.bool (shape1 r.k r.s r.kids.length)):=by
  obtain ⟨k,s,l⟩:=r
  obtain ⟨hk0,hk1,hs0,hs1,hlen,hok⟩:=hr
  simp only [Rx.k,Rx.s,Rx.kids]
  refine evF_inB (n:=51) (rs:=[.tmp 2]) Tryz.func113 rfl rfl rfl rfl rfl rfl ?_
  by_cases h0 : k = 0
  · subst h0
    by_cases hs : s = 0 <;> by_cases hl : l.length = 0
    · repeat' (first | apply wz1|apply wz2|apply wz3|apply wz4|apply wz5|apply wz6 | simp -dsimp (maxSteps:=999999) (disch:=omega) only[go_sem,simprocAttr, *])
      refine wz7 (fun hb=>?_) (fun hb=>?_) <;> try simp -dsimp (maxSteps:=999999) (disch:=omega) only[go_sem,simprocAttr,decide_eq_true_eq,decide_eq_false_iff_not,Bool.not_eq_true,Bool.not_eq_false,Int.not_lt,Int.not_le] at hb
      repeat' (first | apply wz1|apply wz2|apply wz3|apply wz4|apply wz5|apply wz6 | simp -dsimp (maxSteps:=999999) (disch:=omega) only[go_sem,simprocAttr, *])
      try simp -dsimp (maxSteps:=999999) (disch:=omega) only[go_sem,simprocAttr, *,shape1,beqN_true,beqN_false,eqZ_false,or_false1]
    · repeat' (first | apply wz1|apply wz2|apply wz3|apply wz4|apply wz5|apply wz6 | simp -dsimp (maxSteps:=999999) (disch:=omega) only[go_sem,simprocAttr, *])
      refine wz7 (fun hb=>?_) (fun hb=>?_) <;> try simp -dsimp (maxSteps:=999999) (disch:=omega) only[go_sem,simprocAttr,decide_eq_true_eq,decide_eq_false_iff_not,Bool.not_eq_true,Bool.not_eq_false,Int.not_lt,Int.not_le] at hb
      repeat' (first | apply wz1|apply wz2|apply wz3|apply wz4|apply wz5|apply wz6 | simp -dsimp (maxSteps:=999999) (disch:=omega) only[go_sem,simprocAttr, *])
      try simp -dsimp (maxSteps:=999999) (disch:=omega) only[go_sem,simprocAttr, *,shape1,beqN_true,beqN_false,eqZ_false,or_false1]
    · repeat' (first | apply wz1|apply wz2|apply wz3|apply wz4|apply wz5|apply wz6 | simp -dsimp (maxSteps:=999999) (disch:=omega) only[go_sem,simprocAttr, *])
      refine wz7 (fun hb=>?_) (fun hb=>?_) <;> try simp -dsimp (maxSteps:=999999) (disch:=omega) only[go_sem,simprocAttr,decide_eq_true_eq,decide_eq_false_iff_not,Bool.not_eq_true,Bool.not_eq_false,Int.not_lt,Int.not_le] at hb
      repeat' (first | apply wz1|apply wz2|apply wz3|apply wz4|apply wz5|apply wz6 | simp -dsimp (maxSteps:=999999) (disch:=omega) only[go_sem,simprocAttr, *])
      try simp -dsimp (maxSteps:=999999) (disch:=omega) only[go_sem,simprocAttr, *,shape1,beqN_true,beqN_false,eqZ_false,or_false1]
    · repeat' (first | apply wz1|apply wz2|apply wz3|apply wz4|apply wz5|apply wz6 | simp -dsimp (maxSteps:=999999) (disch:=omega) only[go_sem,simprocAttr, *])
      refine wz7 (fun hb=>?_) (fun hb=>?_) <;> try simp -dsimp (maxSteps:=999999) (disch:=omega) only[go_sem,simprocAttr,decide_eq_true_eq,decide_eq_false_iff_not,Bool.not_eq_true,Bool.not_eq_false,Int.not_lt,Int.not_le] at hb
      repeat' (first | apply wz1|apply wz2|apply wz3|apply wz4|apply wz5|apply wz6 | simp -dsimp (maxSteps:=999999) (disch:=omega) only[go_sem,simprocAttr, *])
      try simp -dsimp (maxSteps:=999999) (disch:=omega) only[go_sem,simprocAttr, *,shape1,beqN_true,beqN_false,eqZ_false,or_false1]
  by_cases h1 : k = 1
  · subst h1
    by_cases hs : s = 0 <;> by_cases hl : l.length = 0
    · repeat' (first | apply wz1|apply wz2|apply wz3|apply wz4|apply wz5|apply wz6 | simp -dsimp (maxSteps:=999999) (disch:=omega) only[go_sem,simprocAttr, *])
      refine wz7 (fun hb=>?_) (fun hb=>?_) <;> try simp -dsimp (maxSteps:=999999) (disch:=omega) only[go_sem,simprocAttr,decide_eq_true_eq,decide_eq_false_iff_not,Bool.not_eq_true,Bool.not_eq_false,Int.not_lt,Int.not_le] at hb
      repeat' (first | apply wz1|apply wz2|apply wz3|apply wz4|apply wz5|apply wz6 | simp -dsimp (maxSteps:=999999) (disch:=omega) only[go_sem,simprocAttr, *])
      refine wz7 (fun hb=>?_) (fun hb=>?_) <;> try simp -dsimp (maxSteps:=999999) (disch:=omega) only[go_sem,simprocAttr,decide_eq_true_eq,decide_eq_false_iff_not,Bool.not_eq_true,Bool.not_eq_false,Int.not_lt,Int.not_le] at hb
      repeat' (first | apply wz1|apply wz2|apply wz3|apply wz4|apply wz5|apply wz6 | simp -dsimp (maxSteps:=999999) (disch:=omega) only[go_sem,simprocAttr, *])
      try simp -dsimp (maxSteps:=999999) (disch:=omega) only[go_sem,simprocAttr, *,shape1,beqN_true,beqN_false,eqZ_false,or_false1]
    · repeat' (first | apply wz1|apply wz2|apply wz3|apply wz4|apply wz5|apply wz6 | simp -dsimp (maxSteps:=999999) (disch:=omega) only[go_sem,simprocAttr, *])
      refine wz7 (fun hb=>?_) (fun hb=>?_) <;> try simp -dsimp (maxSteps:=999999) (disch:=omega) only[go_sem,simprocAttr,decide_eq_true_eq,decide_eq_false_iff_not,Bool.not_eq_true,Bool.not_eq_false,Int.not_lt,Int.not_le] at hb
      repeat' (first | apply wz1|apply wz2|apply wz3|apply wz4|apply wz5|apply wz6 | simp -dsimp (maxSteps:=999999) (disch:=omega) only[go_sem,simprocAttr, *])
      refine wz7 (fun hb=>?_) (fun hb=>?_) <;> try simp -dsimp (maxSteps:=999999) (disch:=omega) only[go_sem,simprocAttr,decide_eq_true_eq,decide_eq_false_iff_not,Bool.not_eq_true,Bool.not_eq_false,Int.not_lt,Int.not_le] at hb
      repeat' (first | apply wz1|apply wz2|apply wz3|apply wz4|apply wz5|apply wz6 | simp -dsimp (maxSteps:=999999) (disch:=omega) only[go_sem,simprocAttr, *])
      try simp -dsimp (maxSteps:=999999) (disch:=omega) only[go_sem,simprocAttr, *,shape1,beqN_true,beqN_false,eqZ_false,or_false1]
    · repeat' (first | apply wz1|apply wz2|apply wz3|apply wz4|apply wz5|apply wz6 | simp -dsimp (maxSteps:=999999) (disch:=omega) only[go_sem,simprocAttr, *])
      refine wz7 (fun hb=>?_) (fun hb=>?_) <;> try simp -dsimp (maxSteps:=999999) (disch:=omega) only[go_sem,simprocAttr,decide_eq_true_eq,decide_eq_false_iff_not,Bool.not_eq_true,Bool.not_eq_false,Int.not_lt,Int.not_le] at hb
      repeat' (first | apply wz1|apply wz2|apply wz3|apply wz4|apply wz5|apply wz6 | simp -dsimp (maxSteps:=999999) (disch:=omega) only[go_sem,simprocAttr, *])
      refine wz7 (fun hb=>?_) (fun hb=>?_) <;> try simp -dsimp (maxSteps:=999999) (disch:=omega) only[go_sem,simprocAttr,decide_eq_true_eq,decide_eq_false_iff_not,Bool.not_eq_true,Bool.not_eq_false,Int.not_lt,Int.not_le] at hb
      repeat' (first | apply wz1|apply wz2|apply wz3|apply wz4|apply wz5|apply wz6 | simp -dsimp (maxSteps:=999999) (disch:=omega) only[go_sem,simprocAttr, *])
      try simp -dsimp (maxSteps:=999999) (disch:=omega) only[go_sem,simprocAttr, *,shape1,beqN_true,beqN_false,eqZ_false,or_false1]
    · repeat' (first | apply wz1|apply wz2|apply wz3|apply wz4|apply wz5|apply wz6 | simp -dsimp (maxSteps:=999999) (disch:=omega) only[go_sem,simprocAttr, *])
      refine wz7 (fun hb=>?_) (fun hb=>?_) <;> try simp -dsimp (maxSteps:=999999) (disch:=omega) only[go_sem,simprocAttr,decide_eq_true_eq,decide_eq_false_iff_not,Bool.not_eq_true,Bool.not_eq_false,Int.not_lt,Int.not_le] at hb
      repeat' (first | apply wz1|apply wz2|apply wz3|apply wz4|apply wz5|apply wz6 | simp -dsimp (maxSteps:=999999) (disch:=omega) only[go_sem,simprocAttr, *])
      refine wz7 (fun hb=>?_) (fun hb=>?_) <;> try simp -dsimp (maxSteps:=999999) (disch:=omega) only[go_sem,simprocAttr,decide_eq_true_eq,decide_eq_false_iff_not,Bool.not_eq_true,Bool.not_eq_false,Int.not_lt,Int.not_le] at hb
      repeat' (first | apply wz1|apply wz2|apply wz3|apply wz4|apply wz5|apply wz6 | simp -dsimp (maxSteps:=999999) (disch:=omega) only[go_sem,simprocAttr, *])
      try simp -dsimp (maxSteps:=999999) (disch:=omega) only[go_sem,simprocAttr, *,shape1,beqN_true,beqN_false,eqZ_false,or_false1]
  by_cases h2 : k = 2
  · subst h2
    by_cases hs : s = 0 <;> by_cases hl : 0 < l.length
    · repeat' (first | apply wz1|apply wz2|apply wz3|apply wz4|apply wz5|apply wz6 | simp -dsimp (maxSteps:=999999) (disch:=omega) only[go_sem,simprocAttr, *])
      refine wz7 (fun hb=>?_) (fun hb=>?_) <;> try simp -dsimp (maxSteps:=999999) (disch:=omega) only[go_sem,simprocAttr,decide_eq_true_eq,decide_eq_false_iff_not,Bool.not_eq_true,Bool.not_eq_false,Int.not_lt,Int.not_le] at hb
      repeat' (first | apply wz1|apply wz2|apply wz3|apply wz4|apply wz5|apply wz6 | simp -dsimp (maxSteps:=999999) (disch:=omega) only[go_sem,simprocAttr, *])
      refine wz7 (fun hb=>?_) (fun hb=>?_) <;> try simp -dsimp (maxSteps:=999999) (disch:=omega) only[go_sem,simprocAttr,decide_eq_true_eq,decide_eq_false_iff_not,Bool.not_eq_true,Bool.not_eq_false,Int.not_lt,Int.not_le] at hb
      repeat' (first | apply wz1|apply wz2|apply wz3|apply wz4|apply wz5|apply wz6 | simp -dsimp (maxSteps:=999999) (disch:=omega) only[go_sem,simprocAttr, *])
      refine wz7 (fun hb=>?_) (fun hb=>?_) <;> try simp -dsimp (maxSteps:=999999) (disch:=omega) only[go_sem,simprocAttr,decide_eq_true_eq,decide_eq_false_iff_not,Bool.not_eq_true,Bool.not_eq_false,Int.not_lt,Int.not_le] at hb
      repeat' (first | apply wz1|apply wz2|apply wz3|apply wz4|apply wz5|apply wz6 | simp -dsimp (maxSteps:=999999) (disch:=omega) only[go_sem,simprocAttr, *])
      refine wz7 (fun hb=>?_) (fun hb=>?_) <;> try simp -dsimp (maxSteps:=999999) (disch:=omega) only[go_sem,simprocAttr,decide_eq_true_eq,decide_eq_false_iff_not,Bool.not_eq_true,Bool.not_eq_false,Int.not_lt,Int.not_le] at hb
      repeat' (first | apply wz1|apply wz2|apply wz3|apply wz4|apply wz5|apply wz6 | simp -dsimp (maxSteps:=999999) (disch:=omega) only[go_sem,simprocAttr, *])
      try simp -dsimp (maxSteps:=999999) (disch:=omega) only[go_sem,simprocAttr, *,shape1,beqN_true,beqN_false,eqZ_false,or_false1]
    · repeat' (first | apply wz1|apply wz2|apply wz3|apply wz4|apply wz5|apply wz6 | simp -dsimp (maxSteps:=999999) (disch:=omega) only[go_sem,simprocAttr, *])
      refine wz7 (fun hb=>?_) (fun hb=>?_) <;> try simp -dsimp (maxSteps:=999999) (disch:=omega) only[go_sem,simprocAttr,decide_eq_true_eq,decide_eq_false_iff_not,Bool.not_eq_true,Bool.not_eq_false,Int.not_lt,Int.not_le] at hb
      repeat' (first | apply wz1|apply wz2|apply wz3|apply wz4|apply wz5|apply wz6 | simp -dsimp (maxSteps:=999999) (disch:=omega) only[go_sem,simprocAttr, *])
      refine wz7 (fun hb=>?_) (fun hb=>?_) <;> try simp -dsimp (maxSteps:=999999) (disch:=omega) only[go_sem,simprocAttr,decide_eq_true_eq,decide_eq_false_iff_not,Bool.not_eq_true,Bool.not_eq_false,Int.not_lt,Int.not_le] at hb
      repeat' (first | apply wz1|apply wz2|apply wz3|apply wz4|apply wz5|apply wz6 | simp -dsimp (maxSteps:=999999) (disch:=omega) only[go_sem,simprocAttr, *])
      refine wz7 (fun hb=>?_) (fun hb=>?_) <;> try simp -dsimp (maxSteps:=999999) (disch:=omega) only[go_sem,simprocAttr,decide_eq_true_eq,decide_eq_false_iff_not,Bool.not_eq_true,Bool.not_eq_false,Int.not_lt,Int.not_le] at hb
      repeat' (first | apply wz1|apply wz2|apply wz3|apply wz4|apply wz5|apply wz6 | simp -dsimp (maxSteps:=999999) (disch:=omega) only[go_sem,simprocAttr, *])
      refine wz7 (fun hb=>?_) (fun hb=>?_) <;> try simp -dsimp (maxSteps:=999999) (disch:=omega) only[go_sem,simprocAttr,decide_eq_true_eq,decide_eq_false_iff_not,Bool.not_eq_true,Bool.not_eq_false,Int.not_lt,Int.not_le] at hb
      repeat' (first | apply wz1|apply wz2|apply wz3|apply wz4|apply wz5|apply wz6 | simp -dsimp (maxSteps:=999999) (disch:=omega) only[go_sem,simprocAttr, *])
      try simp -dsimp (maxSteps:=999999) (disch:=omega) only[go_sem,simprocAttr, *,shape1,beqN_true,beqN_false,eqZ_false,or_false1]
    · repeat' (first | apply wz1|apply wz2|apply wz3|apply wz4|apply wz5|apply wz6 | simp -dsimp (maxSteps:=999999) (disch:=omega) only[go_sem,simprocAttr, *])
      refine wz7 (fun hb=>?_) (fun hb=>?_) <;> try simp -dsimp (maxSteps:=999999) (disch:=omega) only[go_sem,simprocAttr,decide_eq_true_eq,decide_eq_false_iff_not,Bool.not_eq_true,Bool.not_eq_false,Int.not_lt,Int.not_le] at hb
      repeat' (first | apply wz1|apply wz2|apply wz3|apply wz4|apply wz5|apply wz6 | simp -dsimp (maxSteps:=999999) (disch:=omega) only[go_sem,simprocAttr, *])
      refine wz7 (fun hb=>?_) (fun hb=>?_) <;> try simp -dsimp (maxSteps:=999999) (disch:=omega) only[go_sem,simprocAttr,decide_eq_true_eq,decide_eq_false_iff_not,Bool.not_eq_true,Bool.not_eq_false,Int.not_lt,Int.not_le] at hb
      repeat' (first | apply wz1|apply wz2|apply wz3|apply wz4|apply wz5|apply wz6 | simp -dsimp (maxSteps:=999999) (disch:=omega) only[go_sem,simprocAttr, *])
      refine wz7 (fun hb=>?_) (fun hb=>?_) <;> try simp -dsimp (maxSteps:=999999) (disch:=omega) only[go_sem,simprocAttr,decide_eq_true_eq,decide_eq_false_iff_not,Bool.not_eq_true,Bool.not_eq_false,Int.not_lt,Int.not_le] at hb
      repeat' (first | apply wz1|apply wz2|apply wz3|apply wz4|apply wz5|apply wz6 | simp -dsimp (maxSteps:=999999) (disch:=omega) only[go_sem,simprocAttr, *])
      refine wz7 (fun hb=>?_) (fun hb=>?_) <;> try simp -dsimp (maxSteps:=999999) (disch:=omega) only[go_sem,simprocAttr,decide_eq_true_eq,decide_eq_false_iff_not,Bool.not_eq_true,Bool.not_eq_false,Int.not_lt,Int.not_le] at hb
      repeat' (first | apply wz1|apply wz2|apply wz3|apply wz4|apply wz5|apply wz6 | simp -dsimp (maxSteps:=999999) (disch:=omega) only[go_sem,simprocAttr, *])
      try simp -dsimp (maxSteps:=999999) (disch:=omega) only[go_sem,simprocAttr, *,shape1,beqN_true,beqN_false,eqZ_false,or_false1]
    · repeat' (first | apply wz1|apply wz2|apply wz3|apply wz4|apply wz5|apply wz6 | simp -dsimp (maxSteps:=999999) (disch:=omega) only[go_sem,simprocAttr, *])
      refine wz7 (fun hb=>?_) (fun hb=>?_) <;> try simp -dsimp (maxSteps:=999999) (disch:=omega) only[go_sem,simprocAttr,decide_eq_true_eq,decide_eq_false_iff_not,Bool.not_eq_true,Bool.not_eq_false,Int.not_lt,Int.not_le] at hb
      repeat' (first | apply wz1|apply wz2|apply wz3|apply wz4|apply wz5|apply wz6 | simp -dsimp (maxSteps:=999999) (disch:=omega) only[go_sem,simprocAttr, *])
      refine wz7 (fun hb=>?_) (fun hb=>?_) <;> try simp -dsimp (maxSteps:=999999) (disch:=omega) only[go_sem,simprocAttr,decide_eq_true_eq,decide_eq_false_iff_not,Bool.not_eq_true,Bool.not_eq_false,Int.not_lt,Int.not_le] at hb
      repeat' (first | apply wz1|apply wz2|apply wz3|apply wz4|apply wz5|apply wz6 | simp -dsimp (maxSteps:=999999) (disch:=omega) only[go_sem,simprocAttr, *])
      refine wz7 (fun hb=>?_) (fun hb=>?_) <;> try simp -dsimp (maxSteps:=999999) (disch:=omega) only[go_sem,simprocAttr,decide_eq_true_eq,decide_eq_false_iff_not,Bool.not_eq_true,Bool.not_eq_false,Int.not_lt,Int.not_le] at hb
      repeat' (first | apply wz1|apply wz2|apply wz3|apply wz4|apply wz5|apply wz6 | simp -dsimp (maxSteps:=999999) (disch:=omega) only[go_sem,simprocAttr, *])
      refine wz7 (fun hb=>?_) (fun hb=>?_) <;> try simp -dsimp (maxSteps:=999999) (disch:=omega) only[go_sem,simprocAttr,decide_eq_true_eq,decide_eq_false_iff_not,Bool.not_eq_true,Bool.not_eq_false,Int.not_lt,Int.not_le] at hb
      repeat' (first | apply wz1|apply wz2|apply wz3|apply wz4|apply wz5|apply wz6 | simp -dsimp (maxSteps:=999999) (disch:=omega) only[go_sem,simprocAttr, *])
      try simp -dsimp (maxSteps:=999999) (disch:=omega) only[go_sem,simprocAttr, *,shape1,beqN_true,beqN_false,eqZ_false,or_false1]
  by_cases h3 : k = 3
  · subst h3
    by_cases hs : s = 0 <;> by_cases hl : 0 < l.length
    · repeat' (first | apply wz1|apply wz2|apply wz3|apply wz4|apply wz5|apply wz6 | simp -dsimp (maxSteps:=999999) (disch:=omega) only[go_sem,simprocAttr, *])
      refine wz7 (fun hb=>?_) (fun hb=>?_) <;> try simp -dsimp (maxSteps:=999999) (disch:=omega) only[go_sem,simprocAttr,decide_eq_true_eq,decide_eq_false_iff_not,Bool.not_eq_true,Bool.not_eq_false,Int.not_lt,Int.not_le] at hb
      repeat' (first | apply wz1|apply wz2|apply wz3|apply wz4|apply wz5|apply wz6 | simp -dsimp (maxSteps:=999999) (disch:=omega) only[go_sem,simprocAttr, *])
      refine wz7 (fun hb=>?_) (fun hb=>?_) <;> try simp -dsimp (maxSteps:=999999) (disch:=omega) only[go_sem,simprocAttr,decide_eq_true_eq,decide_eq_false_iff_not,Bool.not_eq_true,Bool.not_eq_false,Int.not_lt,Int.not_le] at hb
      repeat' (first | apply wz1|apply wz2|apply wz3|apply wz4|apply wz5|apply wz6 | simp -dsimp (maxSteps:=999999) (disch:=omega) only[go_sem,simprocAttr, *])
      refine wz7 (fun hb=>?_) (fun hb=>?_) <;> try simp -dsimp (maxSteps:=999999) (disch:=omega) only[go_sem,simprocAttr,decide_eq_true_eq,decide_eq_false_iff_not,Bool.not_eq_true,Bool.not_eq_false,Int.not_lt,Int.not_le] at hb
      repeat' (first | apply wz1|apply wz2|apply wz3|apply wz4|apply wz5|apply wz6 | simp -dsimp (maxSteps:=999999) (disch:=omega) only[go_sem,simprocAttr, *])
      refine wz7 (fun hb=>?_) (fun hb=>?_) <;> try simp -dsimp (maxSteps:=999999) (disch:=omega) only[go_sem,simprocAttr,decide_eq_true_eq,decide_eq_false_iff_not,Bool.not_eq_true,Bool.not_eq_false,Int.not_lt,Int.not_le] at hb
      repeat' (first | apply wz1|apply wz2|apply wz3|apply wz4|apply wz5|apply wz6 | simp -dsimp (maxSteps:=999999) (disch:=omega) only[go_sem,simprocAttr, *])
      try simp -dsimp (maxSteps:=999999) (disch:=omega) only[go_sem,simprocAttr, *,shape1,beqN_true,beqN_false,eqZ_false,or_false1]
    · repeat' (first | apply wz1|apply wz2|apply wz3|apply wz4|apply wz5|apply wz6 | simp -dsimp (maxSteps:=999999) (disch:=omega) only[go_sem,simprocAttr, *])
      refine wz7 (fun hb=>?_) (fun hb=>?_) <;> try simp -dsimp (maxSteps:=999999) (disch:=omega) only[go_sem,simprocAttr,decide_eq_true_eq,decide_eq_false_iff_not,Bool.not_eq_true,Bool.not_eq_false,Int.not_lt,Int.not_le] at hb
      repeat' (first | apply wz1|apply wz2|apply wz3|apply wz4|apply wz5|apply wz6 | simp -dsimp (maxSteps:=999999) (disch:=omega) only[go_sem,simprocAttr, *])
      refine wz7 (fun hb=>?_) (fun hb=>?_) <;> try simp -dsimp (maxSteps:=999999) (disch:=omega) only[go_sem,simprocAttr,decide_eq_true_eq,decide_eq_false_iff_not,Bool.not_eq_true,Bool.not_eq_false,Int.not_lt,Int.not_le] at hb
      repeat' (first | apply wz1|apply wz2|apply wz3|apply wz4|apply wz5|apply wz6 | simp -dsimp (maxSteps:=999999) (disch:=omega) only[go_sem,simprocAttr, *])
      refine wz7 (fun hb=>?_) (fun hb=>?_) <;> try simp -dsimp (maxSteps:=999999) (disch:=omega) only[go_sem,simprocAttr,decide_eq_true_eq,decide_eq_false_iff_not,Bool.not_eq_true,Bool.not_eq_false,Int.not_lt,Int.not_le] at hb
      repeat' (first | apply wz1|apply wz2|apply wz3|apply wz4|apply wz5|apply wz6 | simp -dsimp (maxSteps:=999999) (disch:=omega) only[go_sem,simprocAttr, *])
      refine wz7 (fun hb=>?_) (fun hb=>?_) <;> try simp -dsimp (maxSteps:=999999) (disch:=omega) only[go_sem,simprocAttr,decide_eq_true_eq,decide_eq_false_iff_not,Bool.not_eq_true,Bool.not_eq_false,Int.not_lt,Int.not_le] at hb
      repeat' (first | apply wz1|apply wz2|apply wz3|apply wz4|apply wz5|apply wz6 | simp -dsimp (maxSteps:=999999) (disch:=omega) only[go_sem,simprocAttr, *])
      try simp -dsimp (maxSteps:=999999) (disch:=omega) only[go_sem,simprocAttr, *,shape1,beqN_true,beqN_false,eqZ_false,or_false1]
    · repeat' (first | apply wz1|apply wz2|apply wz3|apply wz4|apply wz5|apply wz6 | simp -dsimp (maxSteps:=999999) (disch:=omega) only[go_sem,simprocAttr, *])
      refine wz7 (fun hb=>?_) (fun hb=>?_) <;> try simp -dsimp (maxSteps:=999999) (disch:=omega) only[go_sem,simprocAttr,decide_eq_true_eq,decide_eq_false_iff_not,Bool.not_eq_true,Bool.not_eq_false,Int.not_lt,Int.not_le] at hb
      repeat' (first | apply wz1|apply wz2|apply wz3|apply wz4|apply wz5|apply wz6 | simp -dsimp (maxSteps:=999999) (disch:=omega) only[go_sem,simprocAttr, *])
      refine wz7 (fun hb=>?_) (fun hb=>?_) <;> try simp -dsimp (maxSteps:=999999) (disch:=omega) only[go_sem,simprocAttr,decide_eq_true_eq,decide_eq_false_iff_not,Bool.not_eq_true,Bool.not_eq_false,Int.not_lt,Int.not_le] at hb
      repeat' (first | apply wz1|apply wz2|apply wz3|apply wz4|apply wz5|apply wz6 | simp -dsimp (maxSteps:=999999) (disch:=omega) only[go_sem,simprocAttr, *])
      refine wz7 (fun hb=>?_) (fun hb=>?_) <;> try simp -dsimp (maxSteps:=999999) (disch:=omega) only[go_sem,simprocAttr,decide_eq_true_eq,decide_eq_false_iff_not,Bool.not_eq_true,Bool.not_eq_false,Int.not_lt,Int.not_le] at hb
      repeat' (first | apply wz1|apply wz2|apply wz3|apply wz4|apply wz5|apply wz6 | simp -dsimp (maxSteps:=999999) (disch:=omega) only[go_sem,simprocAttr, *])
      refine wz7 (fun hb=>?_) (fun hb=>?_) <;> try simp -dsimp (maxSteps:=999999) (disch:=omega) only[go_sem,simprocAttr,decide_eq_true_eq,decide_eq_false_iff_not,Bool.not_eq_true,Bool.not_eq_false,Int.not_lt,Int.not_le] at hb
      repeat' (first | apply wz1|apply wz2|apply wz3|apply wz4|apply wz5|apply wz6 | simp -dsimp (maxSteps:=999999) (disch:=omega) only[go_sem,simprocAttr, *])
      try simp -dsimp (maxSteps:=999999) (disch:=omega) only[go_sem,simprocAttr, *,shape1,beqN_true,beqN_false,eqZ_false,or_false1]
    · repeat' (first | apply wz1|apply wz2|apply wz3|apply wz4|apply wz5|apply wz6 | simp -dsimp (maxSteps:=999999) (disch:=omega) only[go_sem,simprocAttr, *])
      refine wz7 (fun hb=>?_) (fun hb=>?_) <;> try simp -dsimp (maxSteps:=999999) (disch:=omega) only[go_sem,simprocAttr,decide_eq_true_eq,decide_eq_false_iff_not,Bool.not_eq_true,Bool.not_eq_false,Int.not_lt,Int.not_le] at hb
      repeat' (first | apply wz1|apply wz2|apply wz3|apply wz4|apply wz5|apply wz6 | simp -dsimp (maxSteps:=999999) (disch:=omega) only[go_sem,simprocAttr, *])
      refine wz7 (fun hb=>?_) (fun hb=>?_) <;> try simp -dsimp (maxSteps:=999999) (disch:=omega) only[go_sem,simprocAttr,decide_eq_true_eq,decide_eq_false_iff_not,Bool.not_eq_true,Bool.not_eq_false,Int.not_lt,Int.not_le] at hb
      repeat' (first | apply wz1|apply wz2|apply wz3|apply wz4|apply wz5|apply wz6 | simp -dsimp (maxSteps:=999999) (disch:=omega) only[go_sem,simprocAttr, *])
      refine wz7 (fun hb=>?_) (fun hb=>?_) <;> try simp -dsimp (maxSteps:=999999) (disch:=omega) only[go_sem,simprocAttr,decide_eq_true_eq,decide_eq_false_iff_not,Bool.not_eq_true,Bool.not_eq_false,Int.not_lt,Int.not_le] at hb
      repeat' (first | apply wz1|apply wz2|apply wz3|apply wz4|apply wz5|apply wz6 | simp -dsimp (maxSteps:=999999) (disch:=omega) only[go_sem,simprocAttr, *])
      refine wz7 (fun hb=>?_) (fun hb=>?_) <;> try simp -dsimp (maxSteps:=999999) (disch:=omega) only[go_sem,simprocAttr,decide_eq_true_eq,decide_eq_false_iff_not,Bool.not_eq_true,Bool.not_eq_false,Int.not_lt,Int.not_le] at hb
      repeat' (first | apply wz1|apply wz2|apply wz3|apply wz4|apply wz5|apply wz6 | simp -dsimp (maxSteps:=999999) (disch:=omega) only[go_sem,simprocAttr, *])
      try simp -dsimp (maxSteps:=999999) (disch:=omega) only[go_sem,simprocAttr, *,shape1,beqN_true,beqN_false,eqZ_false,or_false1]
  by_cases h4 : k = 4
  · subst h4
    by_cases hs : s = 0 <;> by_cases hl : l.length = 1
    · repeat' (first | apply wz1|apply wz2|apply wz3|apply wz4|apply wz5|apply wz6 | simp -dsimp (maxSteps:=999999) (disch:=omega) only[go_sem,simprocAttr, *])
      refine wz7 (fun hb=>?_) (fun hb=>?_) <;> try simp -dsimp (maxSteps:=999999) (disch:=omega) only[go_sem,simprocAttr,decide_eq_true_eq,decide_eq_false_iff_not,Bool.not_eq_true,Bool.not_eq_false,Int.not_lt,Int.not_le] at hb
      repeat' (first | apply wz1|apply wz2|apply wz3|apply wz4|apply wz5|apply wz6 | simp -dsimp (maxSteps:=999999) (disch:=omega) only[go_sem,simprocAttr, *])
      refine wz7 (fun hb=>?_) (fun hb=>?_) <;> try simp -dsimp (maxSteps:=999999) (disch:=omega) only[go_sem,simprocAttr,decide_eq_true_eq,decide_eq_false_iff_not,Bool.not_eq_true,Bool.not_eq_false,Int.not_lt,Int.not_le] at hb
      repeat' (first | apply wz1|apply wz2|apply wz3|apply wz4|apply wz5|apply wz6 | simp -dsimp (maxSteps:=999999) (disch:=omega) only[go_sem,simprocAttr, *])
      refine wz7 (fun hb=>?_) (fun hb=>?_) <;> try simp -dsimp (maxSteps:=999999) (disch:=omega) only[go_sem,simprocAttr,decide_eq_true_eq,decide_eq_false_iff_not,Bool.not_eq_true,Bool.not_eq_false,Int.not_lt,Int.not_le] at hb
      repeat' (first | apply wz1|apply wz2|apply wz3|apply wz4|apply wz5|apply wz6 | simp -dsimp (maxSteps:=999999) (disch:=omega) only[go_sem,simprocAttr, *])
      refine wz7 (fun hb=>?_) (fun hb=>?_) <;> try simp -dsimp (maxSteps:=999999) (disch:=omega) only[go_sem,simprocAttr,decide_eq_true_eq,decide_eq_false_iff_not,Bool.not_eq_true,Bool.not_eq_false,Int.not_lt,Int.not_le] at hb
      repeat' (first | apply wz1|apply wz2|apply wz3|apply wz4|apply wz5|apply wz6 | simp -dsimp (maxSteps:=999999) (disch:=omega) only[go_sem,simprocAttr, *])
      refine wz7 (fun hb=>?_) (fun hb=>?_) <;> try simp -dsimp (maxSteps:=999999) (disch:=omega) only[go_sem,simprocAttr,decide_eq_true_eq,decide_eq_false_iff_not,Bool.not_eq_true,Bool.not_eq_false,Int.not_lt,Int.not_le] at hb
      repeat' (first | apply wz1|apply wz2|apply wz3|apply wz4|apply wz5|apply wz6 | simp -dsimp (maxSteps:=999999) (disch:=omega) only[go_sem,simprocAttr, *])
      refine wz7 (fun hb=>?_) (fun hb=>?_) <;> try simp -dsimp (maxSteps:=999999) (disch:=omega) only[go_sem,simprocAttr,decide_eq_true_eq,decide_eq_false_iff_not,Bool.not_eq_true,Bool.not_eq_false,Int.not_lt,Int.not_le] at hb
      repeat' (first | apply wz1|apply wz2|apply wz3|apply wz4|apply wz5|apply wz6 | simp -dsimp (maxSteps:=999999) (disch:=omega) only[go_sem,simprocAttr, *])
      try simp -dsimp (maxSteps:=999999) (disch:=omega) only[go_sem,simprocAttr, *,shape1,beqN_true,beqN_false,eqZ_false,or_false1]
    · repeat' (first | apply wz1|apply wz2|apply wz3|apply wz4|apply wz5|apply wz6 | simp -dsimp (maxSteps:=999999) (disch:=omega) only[go_sem,simprocAttr, *])
      refine wz7 (fun hb=>?_) (fun hb=>?_) <;> try simp -dsimp (maxSteps:=999999) (disch:=omega) only[go_sem,simprocAttr,decide_eq_true_eq,decide_eq_false_iff_not,Bool.not_eq_true,Bool.not_eq_false,Int.not_lt,Int.not_le] at hb
      repeat' (first | apply wz1|apply wz2|apply wz3|apply wz4|apply wz5|apply wz6 | simp -dsimp (maxSteps:=999999) (disch:=omega) only[go_sem,simprocAttr, *])
      refine wz7 (fun hb=>?_) (fun hb=>?_) <;> try simp -dsimp (maxSteps:=999999) (disch:=omega) only[go_sem,simprocAttr,decide_eq_true_eq,decide_eq_false_iff_not,Bool.not_eq_true,Bool.not_eq_false,Int.not_lt,Int.not_le] at hb
      repeat' (first | apply wz1|apply wz2|apply wz3|apply wz4|apply wz5|apply wz6 | simp -dsimp (maxSteps:=999999) (disch:=omega) only[go_sem,simprocAttr, *])
      refine wz7 (fun hb=>?_) (fun hb=>?_) <;> try simp -dsimp (maxSteps:=999999) (disch:=omega) only[go_sem,simprocAttr,decide_eq_true_eq,decide_eq_false_iff_not,Bool.not_eq_true,Bool.not_eq_false,Int.not_lt,Int.not_le] at hb
      repeat' (first | apply wz1|apply wz2|apply wz3|apply wz4|apply wz5|apply wz6 | simp -dsimp (maxSteps:=999999) (disch:=omega) only[go_sem,simprocAttr, *])
      refine wz7 (fun hb=>?_) (fun hb=>?_) <;> try simp -dsimp (maxSteps:=999999) (disch:=omega) only[go_sem,simprocAttr,decide_eq_true_eq,decide_eq_false_iff_not,Bool.not_eq_true,Bool.not_eq_false,Int.not_lt,Int.not_le] at hb
      repeat' (first | apply wz1|apply wz2|apply wz3|apply wz4|apply wz5|apply wz6 | simp -dsimp (maxSteps:=999999) (disch:=omega) only[go_sem,simprocAttr, *])
      refine wz7 (fun hb=>?_) (fun hb=>?_) <;> try simp -dsimp (maxSteps:=999999) (disch:=omega) only[go_sem,simprocAttr,decide_eq_true_eq,decide_eq_false_iff_not,Bool.not_eq_true,Bool.not_eq_false,Int.not_lt,Int.not_le] at hb
      repeat' (first | apply wz1|apply wz2|apply wz3|apply wz4|apply wz5|apply wz6 | simp -dsimp (maxSteps:=999999) (disch:=omega) only[go_sem,simprocAttr, *])
      refine wz7 (fun hb=>?_) (fun hb=>?_) <;> try simp -dsimp (maxSteps:=999999) (disch:=omega) only[go_sem,simprocAttr,decide_eq_true_eq,decide_eq_false_iff_not,Bool.not_eq_true,Bool.not_eq_false,Int.not_lt,Int.not_le] at hb
      repeat' (first | apply wz1|apply wz2|apply wz3|apply wz4|apply wz5|apply wz6 | simp -dsimp (maxSteps:=999999) (disch:=omega) only[go_sem,simprocAttr, *])
      try simp -dsimp (maxSteps:=999999) (disch:=omega) only[go_sem,simprocAttr, *,shape1,beqN_true,beqN_false,eqZ_false,or_false1]
    · repeat' (first | apply wz1|apply wz2|apply wz3|apply wz4|apply wz5|apply wz6 | simp -dsimp (maxSteps:=999999) (disch:=omega) only[go_sem,simprocAttr, *])
      refine wz7 (fun hb=>?_) (fun hb=>?_) <;> try simp -dsimp (maxSteps:=999999) (disch:=omega) only[go_sem,simprocAttr,decide_eq_true_eq,decide_eq_false_iff_not,Bool.not_eq_true,Bool.not_eq_false,Int.not_lt,Int.not_le] at hb
      repeat' (first | apply wz1|apply wz2|apply wz3|apply wz4|apply wz5|apply wz6 | simp -dsimp (maxSteps:=999999) (disch:=omega) only[go_sem,simprocAttr, *])
      refine wz7 (fun hb=>?_) (fun hb=>?_) <;> try simp -dsimp (maxSteps:=999999) (disch:=omega) only[go_sem,simprocAttr,decide_eq_true_eq,decide_eq_false_iff_not,Bool.not_eq_true,Bool.not_eq_false,Int.not_lt,Int.not_le] at hb
      repeat' (first | apply wz1|apply wz2|apply wz3|apply wz4|apply wz5|apply wz6 | simp -dsimp (maxSteps:=999999) (disch:=omega) only[go_sem,simprocAttr, *])
      refine wz7 (fun hb=>?_) (fun hb=>?_) <;> try simp -dsimp (maxSteps:=999999) (disch:=omega) only[go_sem,simprocAttr,decide_eq_true_eq,decide_eq_false_iff_not,Bool.not_eq_true,Bool.not_eq_false,Int.not_lt,Int.not_le] at hb
      repeat' (first | apply wz1|apply wz2|apply wz3|apply wz4|apply wz5|apply wz6 | simp -dsimp (maxSteps:=999999) (disch:=omega) only[go_sem,simprocAttr, *])
      refine wz7 (fun hb=>?_) (fun hb=>?_) <;> try simp -dsimp (maxSteps:=999999) (disch:=omega) only[go_sem,simprocAttr,decide_eq_true_eq,decide_eq_false_iff_not,Bool.not_eq_true,Bool.not_eq_false,Int.not_lt,Int.not_le] at hb
      repeat' (first | apply wz1|apply wz2|apply wz3|apply wz4|apply wz5|apply wz6 | simp -dsimp (maxSteps:=999999) (disch:=omega) only[go_sem,simprocAttr, *])
      refine wz7 (fun hb=>?_) (fun hb=>?_) <;> try simp -dsimp (maxSteps:=999999) (disch:=omega) only[go_sem,simprocAttr,decide_eq_true_eq,decide_eq_false_iff_not,Bool.not_eq_true,Bool.not_eq_false,Int.not_lt,Int.not_le] at hb
      repeat' (first | apply wz1|apply wz2|apply wz3|apply wz4|apply wz5|apply wz6 | simp -dsimp (maxSteps:=999999) (disch:=omega) only[go_sem,simprocAttr, *])
      refine wz7 (fun hb=>?_) (fun hb=>?_) <;> try simp -dsimp (maxSteps:=999999) (disch:=omega) only[go_sem,simprocAttr,decide_eq_true_eq,decide_eq_false_iff_not,Bool.not_eq_true,Bool.not_eq_false,Int.not_lt,Int.not_le] at hb
      repeat' (first | apply wz1|apply wz2|apply wz3|apply wz4|apply wz5|apply wz6 | simp -dsimp (maxSteps:=999999) (disch:=omega) only[go_sem,simprocAttr, *])
      try simp -dsimp (maxSteps:=999999) (disch:=omega) only[go_sem,simprocAttr, *,shape1,beqN_true,beqN_false,eqZ_false,or_false1]
    · repeat' (first | apply wz1|apply wz2|apply wz3|apply wz4|apply wz5|apply wz6 | simp -dsimp (maxSteps:=999999) (disch:=omega) only[go_sem,simprocAttr, *])
      refine wz7 (fun hb=>?_) (fun hb=>?_) <;> try simp -dsimp (maxSteps:=999999) (disch:=omega) only[go_sem,simprocAttr,decide_eq_true_eq,decide_eq_false_iff_not,Bool.not_eq_true,Bool.not_eq_false,Int.not_lt,Int.not_le] at hb
      repeat' (first | apply wz1|apply wz2|apply wz3|apply wz4|apply wz5|apply wz6 | simp -dsimp (maxSteps:=999999) (disch:=omega) only[go_sem,simprocAttr, *])
      refine wz7 (fun hb=>?_) (fun hb=>?_) <;> try simp -dsimp (maxSteps:=999999) (disch:=omega) only[go_sem,simprocAttr,decide_eq_true_eq,decide_eq_false_iff_not,Bool.not_eq_true,Bool.not_eq_false,Int.not_lt,Int.not_le] at hb
      repeat' (first | apply wz1|apply wz2|apply wz3|apply wz4|apply wz5|apply wz6 | simp -dsimp (maxSteps:=999999) (disch:=omega) only[go_sem,simprocAttr, *])
      refine wz7 (fun hb=>?_) (fun hb=>?_) <;> try simp -dsimp (maxSteps:=999999) (disch:=omega) only[go_sem,simprocAttr,decide_eq_true_eq,decide_eq_false_iff_not,Bool.not_eq_true,Bool.not_eq_false,Int.not_lt,Int.not_le] at hb
      repeat' (first | apply wz1|apply wz2|apply wz3|apply wz4|apply wz5|apply wz6 | simp -dsimp (maxSteps:=999999) (disch:=omega) only[go_sem,simprocAttr, *])
      refine wz7 (fun hb=>?_) (fun hb=>?_) <;> try simp -dsimp (maxSteps:=999999) (disch:=omega) only[go_sem,simprocAttr,decide_eq_true_eq,decide_eq_false_iff_not,Bool.not_eq_true,Bool.not_eq_false,Int.not_lt,Int.not_le] at hb
      repeat' (first | apply wz1|apply wz2|apply wz3|apply wz4|apply wz5|apply wz6 | simp -dsimp (maxSteps:=999999) (disch:=omega) only[go_sem,simprocAttr, *])
      refine wz7 (fun hb=>?_) (fun hb=>?_) <;> try simp -dsimp (maxSteps:=999999) (disch:=omega) only[go_sem,simprocAttr,decide_eq_true_eq,decide_eq_false_iff_not,Bool.not_eq_true,Bool.not_eq_false,Int.not_lt,Int.not_le] at hb
      repeat' (first | apply wz1|apply wz2|apply wz3|apply wz4|apply wz5|apply wz6 | simp -dsimp (maxSteps:=999999) (disch:=omega) only[go_sem,simprocAttr, *])
      refine wz7 (fun hb=>?_) (fun hb=>?_) <;> try simp -dsimp (maxSteps:=999999) (disch:=omega) only[go_sem,simprocAttr,decide_eq_true_eq,decide_eq_false_iff_not,Bool.not_eq_true,Bool.not_eq_false,Int.not_lt,Int.not_le] at hb
      repeat' (first | apply wz1|apply wz2|apply wz3|apply wz4|apply wz5|apply wz6 | simp -dsimp (maxSteps:=999999) (disch:=omega) only[go_sem,simprocAttr, *])
      try simp -dsimp (maxSteps:=999999) (disch:=omega) only[go_sem,simprocAttr, *,shape1,beqN_true,beqN_false,eqZ_false,or_false1]
  by_cases h5 : k = 5
  · subst h5
    by_cases hs : s = 0 <;> by_cases hl : l.length = 1
    · repeat' (first | apply wz1|apply wz2|apply wz3|apply wz4|apply wz5|apply wz6 | simp -dsimp (maxSteps:=999999) (disch:=omega) only[go_sem,simprocAttr, *])
      refine wz7 (fun hb=>?_) (fun hb=>?_) <;> try simp -dsimp (maxSteps:=999999) (disch:=omega) only[go_sem,simprocAttr,decide_eq_true_eq,decide_eq_false_iff_not,Bool.not_eq_true,Bool.not_eq_false,Int.not_lt,Int.not_le] at hb
      repeat' (first | apply wz1|apply wz2|apply wz3|apply wz4|apply wz5|apply wz6 | simp -dsimp (maxSteps:=999999) (disch:=omega) only[go_sem,simprocAttr, *])
      refine wz7 (fun hb=>?_) (fun hb=>?_) <;> try simp -dsimp (maxSteps:=999999) (disch:=omega) only[go_sem,simprocAttr,decide_eq_true_eq,decide_eq_false_iff_not,Bool.not_eq_true,Bool.not_eq_false,Int.not_lt,Int.not_le] at hb
      repeat' (first | apply wz1|apply wz2|apply wz3|apply wz4|apply wz5|apply wz6 | simp -dsimp (maxSteps:=999999) (disch:=omega) only[go_sem,simprocAttr, *])
      refine wz7 (fun hb=>?_) (fun hb=>?_) <;> try simp -dsimp (maxSteps:=999999) (disch:=omega) only[go_sem,simprocAttr,decide_eq_true_eq,decide_eq_false_iff_not,Bool.not_eq_true,Bool.not_eq_false,Int.not_lt,Int.not_le] at hb
      repeat' (first | apply wz1|apply wz2|apply wz3|apply wz4|apply wz5|apply wz6 | simp -dsimp (maxSteps:=999999) (disch:=omega) only[go_sem,simprocAttr, *])
      refine wz7 (fun hb=>?_) (fun hb=>?_) <;> try simp -dsimp (maxSteps:=999999) (disch:=omega) only[go_sem,simprocAttr,decide_eq_true_eq,decide_eq_false_iff_not,Bool.not_eq_true,Bool.not_eq_false,Int.not_lt,Int.not_le] at hb
      repeat' (first | apply wz1|apply wz2|apply wz3|apply wz4|apply wz5|apply wz6 | simp -dsimp (maxSteps:=999999) (disch:=omega) only[go_sem,simprocAttr, *])
      refine wz7 (fun hb=>?_) (fun hb=>?_) <;> try simp -dsimp (maxSteps:=999999) (disch:=omega) only[go_sem,simprocAttr,decide_eq_true_eq,decide_eq_false_iff_not,Bool.not_eq_true,Bool.not_eq_false,Int.not_lt,Int.not_le] at hb
      repeat' (first | apply wz1|apply wz2|apply wz3|apply wz4|apply wz5|apply wz6 | simp -dsimp (maxSteps:=999999) (disch:=omega) only[go_sem,simprocAttr, *])
      refine wz7 (fun hb=>?_) (fun hb=>?_) <;> try simp -dsimp (maxSteps:=999999) (disch:=omega) only[go_sem,simprocAttr,decide_eq_true_eq,decide_eq_false_iff_not,Bool.not_eq_true,Bool.not_eq_false,Int.not_lt,Int.not_le] at hb
      repeat' (first | apply wz1|apply wz2|apply wz3|apply wz4|apply wz5|apply wz6 | simp -dsimp (maxSteps:=999999) (disch:=omega) only[go_sem,simprocAttr, *])
      try simp -dsimp (maxSteps:=999999) (disch:=omega) only[go_sem,simprocAttr, *,shape1,beqN_true,beqN_false,eqZ_false,or_false1]
    · repeat' (first | apply wz1|apply wz2|apply wz3|apply wz4|apply wz5|apply wz6 | simp -dsimp (maxSteps:=999999) (disch:=omega) only[go_sem,simprocAttr, *])
      refine wz7 (fun hb=>?_) (fun hb=>?_) <;> try simp -dsimp (maxSteps:=999999) (disch:=omega) only[go_sem,simprocAttr,decide_eq_true_eq,decide_eq_false_iff_not,Bool.not_eq_true,Bool.not_eq_false,Int.not_lt,Int.not_le] at hb
      repeat' (first | apply wz1|apply wz2|apply wz3|apply wz4|apply wz5|apply wz6 | simp -dsimp (maxSteps:=999999) (disch:=omega) only[go_sem,simprocAttr, *])
      refine wz7 (fun hb=>?_) (fun hb=>?_) <;> try simp -dsimp (maxSteps:=999999) (disch:=omega) only[go_sem,simprocAttr,decide_eq_true_eq,decide_eq_false_iff_not,Bool.not_eq_true,Bool.not_eq_false,Int.not_lt,Int.not_le] at hb
      repeat' (first | apply wz1|apply wz2|apply wz3|apply wz4|apply wz5|apply wz6 | simp -dsimp (maxSteps:=999999) (disch:=omega) only[go_sem,simprocAttr, *])
      refine wz7 (fun hb=>?_) (fun hb=>?_) <;> try simp -dsimp (maxSteps:=999999) (disch:=omega) only[go_sem,simprocAttr,decide_eq_true_eq,decide_eq_false_iff_not,Bool.not_eq_true,Bool.not_eq_false,Int.not_lt,Int.not_le] at hb
      repeat' (first | apply wz1|apply wz2|apply wz3|apply wz4|apply wz5|apply wz6 | simp -dsimp (maxSteps:=999999) (disch:=omega) only[go_sem,simprocAttr, *])
      refine wz7 (fun hb=>?_) (fun hb=>?_) <;> try simp -dsimp (maxSteps:=999999) (disch:=omega) only[go_sem,simprocAttr,decide_eq_true_eq,decide_eq_false_iff_not,Bool.not_eq_true,Bool.not_eq_false,Int.not_lt,Int.not_le] at hb
      repeat' (first | apply wz1|apply wz2|apply wz3|apply wz4|apply wz5|apply wz6 | simp -dsimp (maxSteps:=999999) (disch:=omega) only[go_sem,simprocAttr, *])
      refine wz7 (fun hb=>?_) (fun hb=>?_) <;> try simp -dsimp (maxSteps:=999999) (disch:=omega) only[go_sem,simprocAttr,decide_eq_true_eq,decide_eq_false_iff_not,Bool.not_eq_true,Bool.not_eq_false,Int.not_lt,Int.not_le] at hb
      repeat' (first | apply wz1|apply wz2|apply wz3|apply wz4|apply wz5|apply wz6 | simp -dsimp (maxSteps:=999999) (disch:=omega) only[go_sem,simprocAttr, *])
      refine wz7 (fun hb=>?_) (fun hb=>?_) <;> try simp -dsimp (maxSteps:=999999) (disch:=omega) only[go_sem,simprocAttr,decide_eq_true_eq,decide_eq_false_iff_not,Bool.not_eq_true,Bool.not_eq_false,Int.not_lt,Int.not_le] at hb
      repeat' (first | apply wz1|apply wz2|apply wz3|apply wz4|apply wz5|apply wz6 | simp -dsimp (maxSteps:=999999) (disch:=omega) only[go_sem,simprocAttr, *])
      try simp -dsimp (maxSteps:=999999) (disch:=omega) only[go_sem,simprocAttr, *,shape1,beqN_true,beqN_false,eqZ_false,or_false1]
    · repeat' (first | apply wz1|apply wz2|apply wz3|apply wz4|apply wz5|apply wz6 | simp -dsimp (maxSteps:=999999) (disch:=omega) only[go_sem,simprocAttr, *])
      refine wz7 (fun hb=>?_) (fun hb=>?_) <;> try simp -dsimp (maxSteps:=999999) (disch:=omega) only[go_sem,simprocAttr,decide_eq_true_eq,decide_eq_false_iff_not,Bool.not_eq_true,Bool.not_eq_false,Int.not_lt,Int.not_le] at hb
      repeat' (first | apply wz1|apply wz2|apply wz3|apply wz4|apply wz5|apply wz6 | simp -dsimp (maxSteps:=999999) (disch:=omega) only[go_sem,simprocAttr, *])
      refine wz7 (fun hb=>?_) (fun hb=>?_) <;> try simp -dsimp (maxSteps:=999999) (disch:=omega) only[go_sem,simprocAttr,decide_eq_true_eq,decide_eq_false_iff_not,Bool.not_eq_true,Bool.not_eq_false,Int.not_lt,Int.not_le] at hb
      repeat' (first | apply wz1|apply wz2|apply wz3|apply wz4|apply wz5|apply wz6 | simp -dsimp (maxSteps:=999999) (disch:=omega) only[go_sem,simprocAttr, *])
      refine wz7 (fun hb=>?_) (fun hb=>?_) <;> try simp -dsimp (maxSteps:=999999) (disch:=omega) only[go_sem,simprocAttr,decide_eq_true_eq,decide_eq_false_iff_not,Bool.not_eq_true,Bool.not_eq_false,Int.not_lt,Int.not_le] at hb
      repeat' (first | apply wz1|apply wz2|apply wz3|apply wz4|apply wz5|apply wz6 | simp -dsimp (maxSteps:=999999) (disch:=omega) only[go_sem,simprocAttr, *])
      refine wz7 (fun hb=>?_) (fun hb=>?_) <;> try simp -dsimp (maxSteps:=999999) (disch:=omega) only[go_sem,simprocAttr,decide_eq_true_eq,decide_eq_false_iff_not,Bool.not_eq_true,Bool.not_eq_false,Int.not_lt,Int.not_le] at hb
      repeat' (first | apply wz1|apply wz2|apply wz3|apply wz4|apply wz5|apply wz6 | simp -dsimp (maxSteps:=999999) (disch:=omega) only[go_sem,simprocAttr, *])
      refine wz7 (fun hb=>?_) (fun hb=>?_) <;> try simp -dsimp (maxSteps:=999999) (disch:=omega) only[go_sem,simprocAttr,decide_eq_true_eq,decide_eq_false_iff_not,Bool.not_eq_true,Bool.not_eq_false,Int.not_lt,Int.not_le] at hb
      repeat' (first | apply wz1|apply wz2|apply wz3|apply wz4|apply wz5|apply wz6 | simp -dsimp (maxSteps:=999999) (disch:=omega) only[go_sem,simprocAttr, *])
      refine wz7 (fun hb=>?_) (fun hb=>?_) <;> try simp -dsimp (maxSteps:=999999) (disch:=omega) only[go_sem,simprocAttr,decide_eq_true_eq,decide_eq_false_iff_not,Bool.not_eq_true,Bool.not_eq_false,Int.not_lt,Int.not_le] at hb
      repeat' (first | apply wz1|apply wz2|apply wz3|apply wz4|apply wz5|apply wz6 | simp -dsimp (maxSteps:=999999) (disch:=omega) only[go_sem,simprocAttr, *])
      try simp -dsimp (maxSteps:=999999) (disch:=omega) only[go_sem,simprocAttr, *,shape1,beqN_true,beqN_false,eqZ_false,or_false1]
    · repeat' (first | apply wz1|apply wz2|apply wz3|apply wz4|apply wz5|apply wz6 | simp -dsimp (maxSteps:=999999) (disch:=omega) only[go_sem,simprocAttr, *])
      refine wz7 (fun hb=>?_) (fun hb=>?_) <;> try simp -dsimp (maxSteps:=999999) (disch:=omega) only[go_sem,simprocAttr,decide_eq_true_eq,decide_eq_false_iff_not,Bool.not_eq_true,Bool.not_eq_false,Int.not_lt,Int.not_le] at hb
      repeat' (first | apply wz1|apply wz2|apply wz3|apply wz4|apply wz5|apply wz6 | simp -dsimp (maxSteps:=999999) (disch:=omega) only[go_sem,simprocAttr, *])
      refine wz7 (fun hb=>?_) (fun hb=>?_) <;> try simp -dsimp (maxSteps:=999999) (disch:=omega) only[go_sem,simprocAttr,decide_eq_true_eq,decide_eq_false_iff_not,Bool.not_eq_true,Bool.not_eq_false,Int.not_lt,Int.not_le] at hb
      repeat' (first | apply wz1|apply wz2|apply wz3|apply wz4|apply wz5|apply wz6 | simp -dsimp (maxSteps:=999999) (disch:=omega) only[go_sem,simprocAttr, *])
      refine wz7 (fun hb=>?_) (fun hb=>?_) <;> try simp -dsimp (maxSteps:=999999) (disch:=omega) only[go_sem,simprocAttr,decide_eq_true_eq,decide_eq_false_iff_not,Bool.not_eq_true,Bool.not_eq_false,Int.not_lt,Int.not_le] at hb
      repeat' (first | apply wz1|apply wz2|apply wz3|apply wz4|apply wz5|apply wz6 | simp -dsimp (maxSteps:=999999) (disch:=omega) only[go_sem,simprocAttr, *])
      refine wz7 (fun hb=>?_) (fun hb=>?_) <;> try simp -dsimp (maxSteps:=999999) (disch:=omega) only[go_sem,simprocAttr,decide_eq_true_eq,decide_eq_false_iff_not,Bool.not_eq_true,Bool.not_eq_false,Int.not_lt,Int.not_le] at hb
      repeat' (first | apply wz1|apply wz2|apply wz3|apply wz4|apply wz5|apply wz6 | simp -dsimp (maxSteps:=999999) (disch:=omega) only[go_sem,simprocAttr, *])
      refine wz7 (fun hb=>?_) (fun hb=>?_) <;> try simp -dsimp (maxSteps:=999999) (disch:=omega) only[go_sem,simprocAttr,decide_eq_true_eq,decide_eq_false_iff_not,Bool.not_eq_true,Bool.not_eq_false,Int.not_lt,Int.not_le] at hb
      repeat' (first | apply wz1|apply wz2|apply wz3|apply wz4|apply wz5|apply wz6 | simp -dsimp (maxSteps:=999999) (disch:=omega) only[go_sem,simprocAttr, *])
      refine wz7 (fun hb=>?_) (fun hb=>?_) <;> try simp -dsimp (maxSteps:=999999) (disch:=omega) only[go_sem,simprocAttr,decide_eq_true_eq,decide_eq_false_iff_not,Bool.not_eq_true,Bool.not_eq_false,Int.not_lt,Int.not_le] at hb
      repeat' (first | apply wz1|apply wz2|apply wz3|apply wz4|apply wz5|apply wz6 | simp -dsimp (maxSteps:=999999) (disch:=omega) only[go_sem,simprocAttr, *])
      try simp -dsimp (maxSteps:=999999) (disch:=omega) only[go_sem,simprocAttr, *,shape1,beqN_true,beqN_false,eqZ_false,or_false1]
  repeat' (first | apply wz1|apply wz2|apply wz3|apply wz4|apply wz5|apply wz6 | simp -dsimp (maxSteps:=999999) (disch:=omega) only[go_sem,simprocAttr, *])
  refine wz7 (fun hb=>?_) (fun hb=>?_) <;> try simp -dsimp (maxSteps:=999999) (disch:=omega) only[go_sem,simprocAttr,decide_eq_true_eq,decide_eq_false_iff_not,Bool.not_eq_true,Bool.not_eq_false,Int.not_lt,Int.not_le] at hb
  repeat' (first | apply wz1|apply wz2|apply wz3|apply wz4|apply wz5|apply wz6 | simp -dsimp (maxSteps:=999999) (disch:=omega) only[go_sem,simprocAttr, *])
  refine wz7 (fun hb=>?_) (fun hb=>?_) <;> try simp -dsimp (maxSteps:=999999) (disch:=omega) only[go_sem,simprocAttr,decide_eq_true_eq,decide_eq_false_iff_not,Bool.not_eq_true,Bool.not_eq_false,Int.not_lt,Int.not_le] at hb
  repeat' (first | apply wz1|apply wz2|apply wz3|apply wz4|apply wz5|apply wz6 | simp -dsimp (maxSteps:=999999) (disch:=omega) only[go_sem,simprocAttr, *])
  refine wz7 (fun hb=>?_) (fun hb=>?_) <;> try simp -dsimp (maxSteps:=999999) (disch:=omega) only[go_sem,simprocAttr,decide_eq_true_eq,decide_eq_false_iff_not,Bool.not_eq_true,Bool.not_eq_false,Int.not_lt,Int.not_le] at hb
  repeat' (first | apply wz1|apply wz2|apply wz3|apply wz4|apply wz5|apply wz6 | simp -dsimp (maxSteps:=999999) (disch:=omega) only[go_sem,simprocAttr, *])
  refine wz7 (fun hb=>?_) (fun hb=>?_) <;> try simp -dsimp (maxSteps:=999999) (disch:=omega) only[go_sem,simprocAttr,decide_eq_true_eq,decide_eq_false_iff_not,Bool.not_eq_true,Bool.not_eq_false,Int.not_lt,Int.not_le] at hb
  repeat' (first | apply wz1|apply wz2|apply wz3|apply wz4|apply wz5|apply wz6 | simp -dsimp (maxSteps:=999999) (disch:=omega) only[go_sem,simprocAttr, *])
  refine wz7 (fun hb=>?_) (fun hb=>?_) <;> try simp -dsimp (maxSteps:=999999) (disch:=omega) only[go_sem,simprocAttr,decide_eq_true_eq,decide_eq_false_iff_not,Bool.not_eq_true,Bool.not_eq_false,Int.not_lt,Int.not_le] at hb
  repeat' (first | apply wz1|apply wz2|apply wz3|apply wz4|apply wz5|apply wz6 | simp -dsimp (maxSteps:=999999) (disch:=omega) only[go_sem,simprocAttr, *])
  refine wz7 (fun hb=>?_) (fun hb=>?_) <;> try simp -dsimp (maxSteps:=999999) (disch:=omega) only[go_sem,simprocAttr,decide_eq_true_eq,decide_eq_false_iff_not,Bool.not_eq_true,Bool.not_eq_false,Int.not_lt,Int.not_le] at hb
  repeat' (first | apply wz1|apply wz2|apply wz3|apply wz4|apply wz5|apply wz6 | simp -dsimp (maxSteps:=999999) (disch:=omega) only[go_sem,simprocAttr, *])
  try simp -dsimp (maxSteps:=999999) (disch:=omega) only[go_sem,simprocAttr, *,shape1,beqN_true,beqN_false,eqZ_false,or_false1]
mutual
def cntR : Rx → Nat → Int → Bool × Int
  | .mk k s l,d,left=>if left - 1 < 0 ∨ d = 0 ∨ shape1 k s l.length = false then (false,left - 1) else cntL l (d - 1) (left - 1)
def cntL : List Rx → Nat → Int → Bool × Int
  | [],_,left=>(true,left)
  | r :: l,d,left=>if (cntR r d left).1 then cntL l d (cntR r d left).2 else (false,(cntR r d left).2)
end
end Go.Proofs.W
end
section
namespace Go.Proofs.W
open Go Vm Go.Proofs.Zs25
structure PtrTo (H H' : Heap) (p : Nat) (v : D) : Prop where
  len : H.length ≤ H'.length
  at_ : hget H' p = .arr [v]
  low : ∀ k,k < H.length → k ≠ p → hget H' k = hget H k
theorem lt_of_hget {H : Heap} {p : Nat} {xs : List D} (h : hget H p = .arr xs) : p < H.length:=hget_lt h (by simp)
theorem PtrTo.trans {H H1 H2 : Heap} {p : Nat} {v w : D} (h : PtrTo H H1 p v) (g : PtrTo H1 H2 p w) : PtrTo H H2 p w:=
  ⟨Nat.le_trans h.len g.len,g.at_,fun k hk hne=>by rw [g.low k (Nat.lt_of_lt_of_le hk h.len) hne,h.low k hk hne]⟩
theorem wpB_heap {N : Nat} {c : Code} {e : Env} {H : Heap} {Q : Ex → Env → Heap → Prop} (I : Heap → Prop) (h0 : I H) (h : ∀ H,I H → WpB Tryz.prog A N c e H Q) : WpB Tryz.prog A N c e H Q:=h H h0
theorem hget_new {H : Heap} {ob : Ob} {L : List Ob} : hget (H ++ ob :: L) H.length = ob:=by
  rw [hget_app0];rfl
mutual
theorem cnt_lo : ∀ (r : Rx) (d : Nat) (left : Int),0 ≤ left → (cntR r d left).2 ≤ left ∧ ((cntR r d left).1 = true → 0 ≤ (cntR r d left).2)
  | .mk k s l,d,left,h=>by
    simp only [cntR]
    split
    · exact ⟨by simp only;omega,fun h=>by cases h⟩
    · rename_i hc
      have:=cntL_lo l (d - 1) (left - 1) (by omega)
      exact ⟨by omega,this.2⟩
theorem cntL_lo : ∀ (l : List Rx) (d : Nat) (left : Int),0 ≤ left → (cntL l d left).2 ≤ left ∧ ((cntL l d left).1 = true → 0 ≤ (cntL l d left).2)
  | [],d,left,h=>by simp [cntL,h]
  | r :: l,d,left,h=>by
    simp only [cntL]
    have h1:=cnt_lo r d left h
    split
    · rename_i hc
      have h2:=cntL_lo l d _ (h1.2 hc)
      exact ⟨by omega,h2.2⟩
    · rename_i hc
      exact ⟨h1.1,fun h=>by cases h⟩
end
theorem count_ok : ∀ (d : Nat) (hd : d ≤ 1000) (r : Rx) (hr : okR r) (left : Int) (h0 : 0 ≤ left) (h1 : left ≤ 1000) (H : Heap) (p : Nat) (hp : hget H p = .arr [.int .i64 left]),
    EvF Tryz.prog A 87 [rxD r,.int .i64 d,.ptr p 0 0] H (fun x H'=>x = .bool (cntR r d left).1 ∧ PtrTo H H' p (.int .i64 (cntR r d left).2)) (fun _ _=>False):=by
  intro d
  induction d with
  | zero=>
    intro hd r hr left h0 h1 H p hp
    have hlt:=lt_of_hget hp
    have hsh:=shape_ok r hr
    have hst:=strip1 (strip_rx r)
    obtain ⟨k,s,l⟩:=r
    have hcn : cntR (.mk k s l) 0 left = (false,left - 1):=by simp [cntR]
    rw [hcn]
    have c1:=rx_cells (.mk k s l)
    have c2:=rx_aggQ (.mk k s l)
    have c3:=rx_noTup (.mk k s l)
    generalize rxD (.mk k s l) = d at *
    refine evF_inB (n:=41) (rs:=[.tmp 6]) Tryz.func87 rfl rfl rfl rfl rfl rfl ?_
    (refine wz1 ?_;refine wz2 ?_;simp -dsimp (maxSteps:=999999) (disch:=omega) only[go_sem,simprocAttr, *])
    (refine wz1 ?_;refine wz2 ?_;simp -dsimp (maxSteps:=999999) (disch:=omega) only[go_sem,simprocAttr, *,hget_app_lt])
    refine wpB_heap (fun H1=>hget H1 p = .arr [.int .i64 (left - 1)] ∧ PtrTo H H1 p (.int .i64 (left - 1))) ?_ ?_
    · refine ⟨hget_set_eq (by simp;omega),⟨by simp,hget_set_eq (by simp;omega),fun k hk hne=>?_⟩⟩
      rw [hget_set_ne (by omega),hget_app_lt hk]
    · rintro H1 ⟨hp1,hPt⟩
      by_cases hl : left - 1 < 0
      · repeat' (first | apply wz1|apply wz2|apply wz3|apply wz4|apply wz5|apply wz6 | simp -dsimp (maxSteps:=999999) (disch:=omega) only[go_sem,simprocAttr, *])
        refine wz7 (fun hb=>?_) (fun hb=>?_) <;> try simp -dsimp (maxSteps:=999999) (disch:=omega) only[go_sem,simprocAttr,decide_eq_true_eq,decide_eq_false_iff_not,Bool.not_eq_true,Bool.not_eq_false,Int.not_lt,Int.not_le] at hb
        repeat' (first | apply wz1|apply wz2|apply wz3|apply wz4|apply wz5|apply wz6 | simp -dsimp (maxSteps:=999999) (disch:=omega) only[go_sem,simprocAttr, *])
      · repeat' (first | apply wz1|apply wz2|apply wz3|apply wz4|apply wz5|apply wz6 | simp -dsimp (maxSteps:=999999) (disch:=omega) only[go_sem,simprocAttr, *])
        refine wz7 (fun hb=>?_) (fun hb=>?_) <;> try simp -dsimp (maxSteps:=999999) (disch:=omega) only[go_sem,simprocAttr,decide_eq_true_eq,decide_eq_false_iff_not,Bool.not_eq_true,Bool.not_eq_false,Int.not_lt,Int.not_le] at hb
        repeat' (first | apply wz1|apply wz2|apply wz3|apply wz4|apply wz5|apply wz6 | simp -dsimp (maxSteps:=999999) (disch:=omega) only[go_sem,simprocAttr, *])
  | succ d ih=>
    intro hd r hr left h0 h1 H p hp
    have hlt:=lt_of_hget hp
    have hsh:=shape_ok r hr
    have hst:=strip1 (strip_rx r)
    obtain ⟨k,s,l⟩:=r
    obtain ⟨_,_,_,_,hlen,hok⟩:=hr
    simp only [Rx.k,Rx.s,Rx.kids] at hsh
    refine evF_inB (n:=41) (rs:=[.tmp 6]) Tryz.func87 rfl rfl rfl rfl rfl rfl ?_
    (refine wz1 ?_;refine wz2 ?_;simp -dsimp (maxSteps:=999999) (disch:=omega) only[go_sem,simprocAttr, *])
    (refine wz1 ?_;refine wz2 ?_;simp -dsimp (maxSteps:=999999) (disch:=omega) only[go_sem,simprocAttr, *,hget_app_lt])
    refine wpB_heap (fun H1=>hget H1 p = .arr [.int .i64 (left - 1)] ∧ PtrTo H H1 p (.int .i64 (left - 1)) ∧ hget H1 H.length = .arr [rxD (.mk k s l)] ∧ H.length < H1.length) ?_ ?_
    · refine ⟨hget_set_eq (by simp;omega),⟨by simp,hget_set_eq (by simp;omega),fun k hk hne=>?_⟩,?_,by simp⟩
      · rw [hget_set_ne (by omega),hget_app_lt hk]
      · rw [hget_set_ne (by omega),hget_new];rfl
    · rintro H1 ⟨hp1,hPt,hq,hql⟩
      by_cases hl : left - 1 < 0
      · have hcn : cntR (.mk k s l) (d + 1) left = (false,left - 1):=by simp only [cntR];rw [if_pos (.inl hl)]
        rw [hcn]
        repeat' (first | apply wz1|apply wz2|apply wz3|apply wz4|apply wz5|apply wz6 | simp -dsimp (maxSteps:=999999) (disch:=omega) only[go_sem,simprocAttr, *])
        refine wz7 (fun hb=>?_) (fun hb=>?_) <;> try simp -dsimp (maxSteps:=999999) (disch:=omega) only[go_sem,simprocAttr,decide_eq_true_eq,decide_eq_false_iff_not,Bool.not_eq_true,Bool.not_eq_false,Int.not_lt,Int.not_le] at hb
        repeat' (first | apply wz1|apply wz2|apply wz3|apply wz4|apply wz5|apply wz6 | simp -dsimp (maxSteps:=999999) (disch:=omega) only[go_sem,simprocAttr, *])
      · cases hs : shape1 k s l.length with
        | false=>
          have hcn : cntR (.mk k s l) (d + 1) left = (false,left - 1):=by simp only [cntR];rw [if_pos (.inr (.inr hs))]
          rw [hcn]
          rw [hs] at hsh
          repeat' (first | apply wz1|apply wz2|apply wz3|apply wz4|apply wz5|apply wz6 | simp -dsimp (maxSteps:=999999) (disch:=omega) only[go_sem,simprocAttr, *])
          refine evB_plain bo113 rfl rfl hst hsh ?_
          simp -dsimp (maxSteps:=999999) (disch:=omega) only[go_sem,simprocAttr, *]
          refine wz7 (fun hb=>?_) (fun hb=>?_) <;> try simp -dsimp (maxSteps:=999999) (disch:=omega) only[go_sem,simprocAttr,decide_eq_true_eq,decide_eq_false_iff_not,Bool.not_eq_true,Bool.not_eq_false,Int.not_lt,Int.not_le] at hb
          repeat' (first | apply wz1|apply wz2|apply wz3|apply wz4|apply wz5|apply wz6 | simp -dsimp (maxSteps:=999999) (disch:=omega) only[go_sem,simprocAttr, *])
        | true=>
          have hcn : cntR (.mk k s l) (d + 1) left = cntL l d (left - 1):=by simp only [cntR];rw [if_neg (by simp [hs];omega)];rfl
          rw [hcn]
          rw [hs] at hsh
          clear hcn
          repeat' (first | apply wz1|apply wz2|apply wz3|apply wz4|apply wz5|apply wz6 | simp -dsimp (maxSteps:=999999) (disch:=omega) only[go_sem,simprocAttr, *])
          refine evB_plain bo113 rfl rfl hst hsh ?_
          simp -dsimp (maxSteps:=999999) (disch:=omega) only[go_sem,simprocAttr, *]
          refine wz7 (fun hb=>?_) (fun hb=>?_) <;> try simp -dsimp (maxSteps:=999999) (disch:=omega) only[go_sem,simprocAttr,decide_eq_true_eq,decide_eq_false_iff_not,Bool.not_eq_true,Bool.not_eq_false,Int.not_lt,Int.not_le] at hb
          repeat' (first | apply wz1|apply wz2|apply wz3|apply wz4|apply wz5|apply wz6 | simp -dsimp (maxSteps:=999999) (disch:=omega) only[go_sem,simprocAttr, *])
          refine wpB_loop (fun e H2=>∃ j : Nat,j ≤ l.length ∧ e 1 = .int .i64 ((d : Int) + 1) ∧ e 2 = .ptr p 0 0 ∧ e 28 = .sl false (rxDs l) ∧ e 29 = .int .i64 l.length ∧ e 30 = .int .i64 j ∧ ∃ left' : Int,0 ≤ left' ∧ left' ≤ 1000 ∧ PtrTo H H2 p (.int .i64 left') ∧ cntL l d (left - 1) = cntL (l.drop j) d left') (fun e H=>l.length - natOf (e 30)) ?_ ?_
          · exact ⟨0,Nat.zero_le _,gs,gs,gs,gs,rfl,left - 1,by omega,by omega,hPt,by simp⟩
          · clear hq hql hPt hp1 hb hsh H1
            rintro e H2 ⟨j,hj,e1,e2,e28,e29,e30,left',hl0,hl1,hPt,ha⟩ R hR
            repeat' (first | apply wz1|apply wz2|apply wz3|apply wz4|apply wz5|apply wz6 | simp -dsimp (maxSteps:=999999) (disch:=omega) only[go_sem,simprocAttr, *])
            refine wz7 (fun hb2=>?_) (fun hb2=>?_) <;> try simp -dsimp (maxSteps:=999999) (disch:=omega) only[go_sem,simprocAttr,decide_eq_true_eq,decide_eq_false_iff_not,Bool.not_eq_true,Bool.not_eq_false,Int.not_lt,Int.not_le] at hb2
            · rw [List.drop_eq_getElem_cons hb2] at ha
              simp only [cntL] at ha
              have hst2:=strip1 (strip_rx l[j])
              have hkid:=okL_get hok _ (List.getElem_mem hb2)
              have c1:=rx_cells l[j]
              have c2:=rx_aggQ l[j]
              have c3:=rx_noTup l[j]
              have hlt2:=lt_of_hget hPt.at_
              have hlow : ∀ (L : List Ob),hget (H2 ++ L) p = .arr [.int .i64 left']:=fun L=>by rw [hget_app_lt hlt2,hPt.at_]
              have ihj:=ih (by omega) l[j] hkid left' hl0 hl1
              have hcl:=cnt_lo l[j] d left' hl0
              obtain ⟨b,lf,hc⟩ : ∃ b lf,cntR l[j] d left' = (b,lf):=⟨_,_,rfl⟩
              rw [hc] at ha hcl
              simp only [hc] at ihj
              repeat' (first | apply wz1|apply wz2|apply wz3|apply wz4|apply wz5|apply wz6 | simp -dsimp (maxSteps:=999999) (disch:=omega) only[go_sem,simprocAttr, *])
              refine evB_state bo87 rfl rfl (ihj _ p (hlow _)) ?_ (fun _ _ h=>h.elim)
              rintro _ H3 ⟨rfl,hP3⟩
              have hP : PtrTo H H3 p (.int .i64 lf):=⟨by have:=hPt.len;have:=hP3.len;simp at this;omega,hP3.at_,fun k hk hne=>by
                have h1:=hPt.len
                rw [hP3.low k (by simp;omega) hne,hget_app_lt (by omega),hPt.low k hk hne]⟩
              cases b with
              | false=>
                simp only [Bool.false_eq_true,if_false] at ha
                rw [ha]
                simp -dsimp (maxSteps:=999999) (disch:=omega) only[go_sem,simprocAttr, *]
                refine wz7 (fun hb3=>?_) (fun hb3=>?_) <;> try simp -dsimp (maxSteps:=999999) (disch:=omega) only[go_sem,simprocAttr,decide_eq_true_eq,decide_eq_false_iff_not,Bool.not_eq_true,Bool.not_eq_false,Int.not_lt,Int.not_le] at hb3
                repeat' (first | apply wz1|apply wz2|apply wz3|apply wz4|apply wz5|apply wz6 | simp -dsimp (maxSteps:=999999) (disch:=omega) only[go_sem,simprocAttr, *])
              | true=>
                simp only [if_true] at ha hcl
                simp -dsimp (maxSteps:=999999) (disch:=omega) only[go_sem,simprocAttr, *]
                refine wz7 (fun hb3=>?_) (fun hb3=>?_) <;> try simp -dsimp (maxSteps:=999999) (disch:=omega) only[go_sem,simprocAttr,decide_eq_true_eq,decide_eq_false_iff_not,Bool.not_eq_true,Bool.not_eq_false,Int.not_lt,Int.not_le] at hb3
                repeat' (first | apply wz1|apply wz2|apply wz3|apply wz4|apply wz5|apply wz6 | simp -dsimp (maxSteps:=999999) (disch:=omega) only[go_sem,simprocAttr, *])
                refine hR _ _ ⟨j + 1,by omega,gs,gs,gs,gs,gs,lf,hcl.2 trivial,by omega,hP,ha⟩ ?_
                simp -dsimp (maxSteps:=999999) (disch:=omega) only[go_sem,simprocAttr, *,natOf_int]
            · rw [List.drop_eq_nil_of_le (by omega)] at ha
              rw [ha]
              repeat' (first | apply wz1|apply wz2|apply wz3|apply wz4|apply wz5|apply wz6 | simp -dsimp (maxSteps:=999999) (disch:=omega) only[go_sem,simprocAttr, *])
              exact ⟨rfl,hPt⟩
end Go.Proofs.W
end
section
namespace Go.Proofs.W
open Go Vm Go.Proofs.Zs25
theorem app_int {m : Nat} {d : D} {H : Heap} {l : List Int} (h : VecAt m d H (l.map (.int .i64))) (x : Int) (hl : l.length ≤ 1000000) : ∃ d' H',appendD Tryz.prog 38 (H ++ [Ob.arr [.int .i64 x]]) d (.vec H.length 0 1) = some (d',H') ∧ VecAt m d' H' ((l ++ [x]).map (.int .i64)) ∧ Same m H H':=by
  have:=VecAt.append el38 sz3 by3 zr3 rfl (by decide) h (q:=.int .i64 x) rfl rfl (headInts l) (by simp;omega)
  simpa using this
end Go.Proofs.W
end
section
namespace Go.Proofs.W
open Go Vm Go.Proofs.Zs25
def keyS : List Int → List UInt8
  | []=>[]
  | s :: l=>UInt8.ofNat (s.toNat / 256) :: UInt8.ofNat (s.toNat % 256) :: keyS l
def small (l : List Int) : Prop:=∀ s ∈ l,0 ≤ s ∧ s < 65536
theorem byte_inj {a b : Nat} (ha : a < 256) (hb : b < 256) (h : UInt8.ofNat a = UInt8.ofNat b) : a = b:=by
  have:=congrArg UInt8.toNat h
  simpa [UInt8.toNat_ofNat',Nat.mod_eq_of_lt ha,Nat.mod_eq_of_lt hb] using this
theorem keyS_inj : ∀ {a b : List Int},small a → small b → keyS a = keyS b → a = b
  | [],[],_,_,_=>rfl
  | [],_ :: _,_,_,h=>by simp [keyS] at h
  | _ :: _,[],_,_,h=>by simp [keyS] at h
  | x :: a,y :: b,ha,hb,h=>by
    simp only [keyS,List.cons.injEq] at h
    obtain ⟨h1,h2,h3⟩:=h
    have hx:=ha x (List.mem_cons_self ..)
    have hy:=hb y (List.mem_cons_self ..)
    have e1:=byte_inj (by omega) (by omega) h1
    have e2:=byte_inj (by omega) (by omega) h2
    have e3:=keyS_inj (fun s hs=>ha s (List.mem_cons_of_mem _ hs)) (fun s hs=>hb s (List.mem_cons_of_mem _ hs)) h3
    have : x = y:=by omega
    rw [this,e3]
def ents : Nat → List (List Int) → List (D × D)
  | _,[]=>[]
  | i,l :: ls=>(.str (keyS l),.int .i64 i) :: ents (i + 1) ls
theorem ents_app : ∀ (ls : List (List Int)) (i : Nat) (l : List Int),ents i (ls ++ [l]) = ents i ls ++ [(.str (keyS l),.int .i64 (i + ls.length : Nat))]
  | [],i,l=>by simp [ents]
  | q :: ls,i,l=>by
    simp only [List.cons_append,ents,ents_app ls (i + 1) l,List.length_cons]
    rw [show i + 1 + ls.length = i + (ls.length + 1) by omega]
theorem eq_str (a b : List UInt8) : eqSs (D.str a).cells (D.str b).cells = some (decide (a = b)):=by
  simp [D.cells,eqSs,eqS]
  by_cases h : a = b
  · simp [h]
  · simp [h]
def placeS (l : List Int) : Nat → List (List Int) → Option Nat
  | _,[]=>none
  | i,q :: ls=>if l = q then some i else placeS l (i + 1) ls
theorem place_ge {l : List Int} : ∀ {ls : List (List Int)} {i j : Nat},placeS l i ls = some j → i ≤ j
  | [],_,_,h=>by cases h
  | q :: ls,i,j,h=>by
    simp only [placeS] at h
    split at h
    · cases h;exact Nat.le_refl _
    · exact Nat.le_trans (Nat.le_succ _) (place_ge h)
theorem find_ents {l : List Int} (hl : small l) : ∀ (ls : List (List Int)) (i m : Nat),(∀ q ∈ ls,small q) → findE (.str (keyS l)) (ents i ls) m = some ((placeS l i ls).map fun j=>(m + (j - i),.int .i64 j))
  | [],i,m,_=>rfl
  | q :: ls,i,m,h=>by
    have hq:=h q (List.mem_cons_self ..)
    have ih:=find_ents hl ls (i + 1) (m + 1) (fun x hx=>h x (List.mem_cons_of_mem _ hx))
    simp only [ents,findE,aggQ,if_true,eq_str,Option.bind_some,placeS]
    by_cases e : l = q
    · subst e;simp
    · have ek : keyS l ≠ keyS q:=fun hk=>e (keyS_inj hl hq hk)
      simp only [ek,decide_false,Bool.false_eq_true,if_false,e,ih]
      congr 1
      cases hp : placeS l (i + 1) ls with
      | none=>rfl
      | some j=>
        have : i + 1 ≤ j:=place_ge hp
        simp only [Option.map_some]
        rw [show m + 1 + (j - (i + 1)) = m + (j - i) by omega]
theorem place_at {l : List Int} : ∀ {ls : List (List Int)} {i j : Nat},placeS l i ls = some j → ls[j - i]? = some l
  | [],_,_,h=>by cases h
  | q :: ls,i,j,h=>by
    simp only [placeS] at h
    split at h
    · rename_i e;cases h;subst e;simp
    · have:=place_ge h
      have ih:=place_at h
      rw [show j - i = (j - (i + 1)) + 1 by omega]
      simpa using ih
def addS (ls : List (List Int)) (l : List Int) : Int × List (List Int):=if l = [] then (-1,ls) else match placeS l 0 ls with
  | some j=>(j,ls)
  | none=>(ls.length,ls ++ [l])
theorem addS_at {ls : List (List Int)} {l : List Int} (h : l ≠ []) : ∃ j : Nat,(addS ls l).1 = j ∧ (addS ls l).2[j]? = some l:=by
  unfold addS
  rw [if_neg h]
  cases hp : placeS l 0 ls with
  | some j=>exact ⟨j,rfl,by simpa using place_at hp⟩
  | none=>exact ⟨ls.length,rfl,by simp⟩
theorem addS_old {ls : List (List Int)} {l q : List Int} {j : Nat} (h : ls[j]? = some q) : (addS ls l).2[j]? = some q:=by
  have hj:=(List.getElem?_eq_some_iff.1 h).1
  unfold addS
  split
  · exact h
  · split
    · exact h
    · simpa [List.getElem?_append_left hj] using h
end Go.Proofs.W
end
section
namespace Go.Proofs.W
open Go Vm Go.Proofs.Zs25
structure Nfa where
  free : List (List Int)
  set : List Int
  to : List Int
  rule : List Int
def u16D (l : List Int) : D:=.sl false (l.map (.int .u16))
def issD (l : List (List Int)) : D:=.sl false (l.map isD)
def nfaD (n : Nfa) : D:=.agg [issD n.free,u16D n.set,isD n.to,isD n.rule]
theorem strip_u16s (l : List Int) : stripL (l.map (.int .u16)) = some (l.map (.int .u16)):=by
  induction l with
  | nil=>rfl
  | cons q r ih=>simp [stripL,ih,strip]
theorem strip_iss (l : List (List Int)) : stripL (l.map isD) = some (l.map isD):=by
  induction l with
  | nil=>rfl
  | cons q r ih=>simp [stripL,ih,strip_is]
theorem strip_issD (l : List (List Int)) : strip (issD l) = some (issD l):=by simp [issD,strip,strip_iss]
theorem strip_u16D (l : List Int) : strip (u16D l) = some (u16D l):=by simp [u16D,strip,strip_u16s]
theorem strip_nfa (n : Nfa) : strip (nfaD n) = some (nfaD n):=by simp [nfaD,strip,stripL,strip_issD,strip_u16D,strip_is]
def isS (k : Nat) (s : Int) : Bool:=decide (0 ≤ s) && decide (s < k)
theorem isS_iff {k : Nat} {s : Int} : isS k s = true ↔ 0 ≤ s ∧ s < k:=by simp [isS]
def rowOk (n : Nfa) (i : Nat) : Bool:=
  !(decide (n.set.getD i 0 ≠ 0) && !isS n.set.length (n.to.getD i 0)) && decide (-1 ≤ n.rule.getD i 0) && decide (n.rule.getD i 0 < 16) && (n.free.getD i []).all (isS n.set.length)
def rightN (n : Nfa) : Bool:=decide (1 ≤ n.set.length ∧ n.set.length ≤ 3300 ∧ n.free.length = n.set.length ∧ n.to.length = n.set.length ∧ n.rule.length = n.set.length) && allN (rowOk n) 0 n.set.length
theorem right1_ok (s : Int) (k r : Nat) (H : Heap) (hg : hget H r = .arr [.int .i64 k]) : EvF Tryz.prog A 137 [.int .i64 s,.ptr r 0 0] H (fun d H'=>d = .bool (isS k s) ∧ H' = H) (fun _ _=>False):=by
  refine evF_inB (n:=11) (rs:=[.tmp 3]) Tryz.func137 rfl rfl rfl rfl rfl rfl ?_
  by_cases h0 : 0 ≤ s
  · by_cases h1 : s < k
    · repeat' (first | apply wz1|apply wz2|apply wz3|apply wz4|apply wz5|apply wz6 | simp -dsimp (maxSteps:=999999) (disch:=omega) only[go_sem,simprocAttr, *,isS])
    · repeat' (first | apply wz1|apply wz2|apply wz3|apply wz4|apply wz5|apply wz6 | simp -dsimp (maxSteps:=999999) (disch:=omega) only[go_sem,simprocAttr, *,isS])
  · repeat' (first | apply wz1|apply wz2|apply wz3|apply wz4|apply wz5|apply wz6 | simp -dsimp (maxSteps:=999999) (disch:=omega) only[go_sem,simprocAttr, *,isS])
theorem nright_ok (n : Nfa) (hs : n.set.length ≤ 1000000) (hf : ∀ l ∈ n.free,l.length ≤ 1000000) : PureF Tryz.prog A 118 [nfaD n] (.bool (rightN n)):=by
  refine evF_inB (n:=91) (rs:=[.tmp 2]) Tryz.func118 rfl rfl rfl rfl rfl rfl ?_
  by_cases c1 : n.set.length = 0
  · have hz : rightN n = false:=by simp [rightN,c1]
    rw [hz]
    repeat' (first | apply wz1|apply wz2|apply wz3|apply wz4|apply wz5|apply wz6 | simp -dsimp (maxSteps:=999999) (disch:=omega) only[go_sem,simprocAttr, *,nfaD,u16D])
    refine wz7 (fun hb=>?_) (fun hb=>?_) <;> try simp -dsimp (maxSteps:=999999) (disch:=omega) only[go_sem,simprocAttr,decide_eq_true_eq,decide_eq_false_iff_not,Bool.not_eq_true,Bool.not_eq_false,Int.not_lt,Int.not_le] at hb
    repeat' (first | apply wz1|apply wz2|apply wz3|apply wz4|apply wz5|apply wz6 | simp -dsimp (maxSteps:=999999) (disch:=omega) only[go_sem,simprocAttr, *])
    try rfl
  by_cases c2 : n.set.length ≤ 3300
  case neg=>
    have hz : rightN n = false:=by simp [rightN,c2]
    rw [hz]
    repeat' (first | apply wz1|apply wz2|apply wz3|apply wz4|apply wz5|apply wz6 | simp -dsimp (maxSteps:=999999) (disch:=omega) only[go_sem,simprocAttr, *,nfaD,u16D])
    refine wz7 (fun hb=>?_) (fun hb=>?_) <;> try simp -dsimp (maxSteps:=999999) (disch:=omega) only[go_sem,simprocAttr,decide_eq_true_eq,decide_eq_false_iff_not,Bool.not_eq_true,Bool.not_eq_false,Int.not_lt,Int.not_le] at hb
    repeat' (first | apply wz1|apply wz2|apply wz3|apply wz4|apply wz5|apply wz6 | simp -dsimp (maxSteps:=999999) (disch:=omega) only[go_sem,simprocAttr, *])
    try rfl
  by_cases c3 : n.free.length = n.set.length
  case neg=>
    have hz : rightN n = false:=by simp [rightN,c3]
    rw [hz]
    repeat' (first | apply wz1|apply wz2|apply wz3|apply wz4|apply wz5|apply wz6 | simp -dsimp (maxSteps:=999999) (disch:=omega) only[go_sem,simprocAttr, *,nfaD,u16D,issD])
    refine wz7 (fun hb=>?_) (fun hb=>?_) <;> try simp -dsimp (maxSteps:=999999) (disch:=omega) only[go_sem,simprocAttr,decide_eq_true_eq,decide_eq_false_iff_not,Bool.not_eq_true,Bool.not_eq_false,Int.not_lt,Int.not_le] at hb
    repeat' (first | apply wz1|apply wz2|apply wz3|apply wz4|apply wz5|apply wz6 | simp -dsimp (maxSteps:=999999) (disch:=omega) only[go_sem,simprocAttr, *])
    try rfl
  by_cases c4 : n.to.length = n.set.length
  case neg=>
    have hz : rightN n = false:=by simp [rightN,c4]
    rw [hz]
    repeat' (first | apply wz1|apply wz2|apply wz3|apply wz4|apply wz5|apply wz6 | simp -dsimp (maxSteps:=999999) (disch:=omega) only[go_sem,simprocAttr, *,nfaD,u16D,issD,isD])
    refine wz7 (fun hb=>?_) (fun hb=>?_) <;> try simp -dsimp (maxSteps:=999999) (disch:=omega) only[go_sem,simprocAttr,decide_eq_true_eq,decide_eq_false_iff_not,Bool.not_eq_true,Bool.not_eq_false,Int.not_lt,Int.not_le] at hb
    repeat' (first | apply wz1|apply wz2|apply wz3|apply wz4|apply wz5|apply wz6 | simp -dsimp (maxSteps:=999999) (disch:=omega) only[go_sem,simprocAttr, *])
    try rfl
  by_cases c5 : n.rule.length = n.set.length
  case neg=>
    have hz : rightN n = false:=by simp [rightN,c5]
    rw [hz]
    repeat' (first | apply wz1|apply wz2|apply wz3|apply wz4|apply wz5|apply wz6 | simp -dsimp (maxSteps:=999999) (disch:=omega) only[go_sem,simprocAttr, *,nfaD,u16D,issD,isD])
    refine wz7 (fun hb=>?_) (fun hb=>?_) <;> try simp -dsimp (maxSteps:=999999) (disch:=omega) only[go_sem,simprocAttr,decide_eq_true_eq,decide_eq_false_iff_not,Bool.not_eq_true,Bool.not_eq_false,Int.not_lt,Int.not_le] at hb
    repeat' (first | apply wz1|apply wz2|apply wz3|apply wz4|apply wz5|apply wz6 | simp -dsimp (maxSteps:=999999) (disch:=omega) only[go_sem,simprocAttr, *])
    try rfl
  have hz : rightN n = allN (rowOk n) 0 n.set.length:=by simp [rightN,c2,c3,c4,c5];omega
  rw [hz]
  generalize hG : allN (rowOk n) 0 n.set.length = G
  clear hz
  repeat' (first | apply wz1|apply wz2|apply wz3|apply wz4|apply wz5|apply wz6 | simp -dsimp (maxSteps:=999999) (disch:=omega) only[go_sem,simprocAttr, *,nfaD,u16D,issD,isD])
  refine wz7 (fun hb=>?_) (fun hb=>?_) <;> try simp -dsimp (maxSteps:=999999) (disch:=omega) only[go_sem,simprocAttr,decide_eq_true_eq,decide_eq_false_iff_not,Bool.not_eq_true,Bool.not_eq_false,Int.not_lt,Int.not_le] at hb
  repeat' (first | apply wz1|apply wz2|apply wz3|apply wz4|apply wz5|apply wz6 | simp -dsimp (maxSteps:=999999) (disch:=omega) only[go_sem,simprocAttr, *,nfaD,u16D,issD,isD])
  let H0 : Heap:=[Ob.arr [nfaD n],Ob.arr [.int .i64 n.set.length]]
  refine wpB_loop (fun e H=>∃ j m : Nat,j + m = n.set.length ∧ H = H0 ∧ e 1 = .ptr 0 0 0 ∧ e 3 = .ptr 1 0 0 ∧ e 4 = .fn 137 [.ptr 1 0 0] ∧ e 39 = .int .i64 n.set.length ∧ e 40 = .int .i64 j ∧ G = allN (rowOk n) j m) (fun e H=>n.set.length - natOf (e 40)) ?_ ?_
  · exact ⟨0,n.set.length,by omega,rfl,gs,gs,gs,gs,gs,hG.symm⟩
  clear hG
  rintro e H ⟨j,m,hj,rfl,e1,e3,e4,e39,e40,ha⟩ R hR
  simp only [H0]
  repeat' (first | apply wz1|apply wz2|apply wz3|apply wz4|apply wz5|apply wz6 | simp -dsimp (maxSteps:=999999) (disch:=omega) only[go_sem,simprocAttr, *,nfaD,u16D,issD,isD])
  refine wz7 (fun hb=>?_) (fun hb=>?_) <;> try simp -dsimp (maxSteps:=999999) (disch:=omega) only[go_sem,simprocAttr,decide_eq_true_eq,decide_eq_false_iff_not,Bool.not_eq_true,Bool.not_eq_false,Int.not_lt,Int.not_le] at hb
  · obtain ⟨m,rfl⟩ : ∃ x,m = x + 1:=⟨m - 1,by omega⟩
    obtain ⟨s,hs1,hs2⟩:=ex_at (l:=n.set) (i:=j) 0 (by omega)
    obtain ⟨t,ht1,ht2⟩:=ex_at (l:=n.to) (i:=j) 0 (by omega)
    obtain ⟨ru,hr1,hr2⟩:=ex_at (l:=n.rule) (i:=j) 0 (by omega)
    obtain ⟨fr,hf1,hf2⟩:=ex_at (l:=n.free) (i:=j) [] (by omega)
    have hrow : allN (rowOk n) j (m + 1) = ((!(decide (s ≠ 0) && !isS n.set.length t) && decide (-1 ≤ ru) && decide (ru < 16) && fr.all (isS n.set.length)) && allN (rowOk n) (j + 1) m):=by simp only [allN,rowOk,hs2,ht2,hr2,hf2]
    rw [hrow] at ha
    clear hrow hs2 ht2 hr2 hf2
    rcases (by by_cases hs0 : s = 0;exact .inl hs0;by_cases hi : isS n.set.length t = true;exact .inr (.inr ⟨hs0,hi⟩);exact .inr (.inl ⟨hs0,by simpa using hi⟩) : s = 0 ∨ (s ≠ 0 ∧ isS n.set.length t = false) ∨ (s ≠ 0 ∧ isS n.set.length t = true)) with hs0 | ⟨hs0,hi⟩ | ⟨hs0,hi⟩
    rotate_left
    · have : G = false:=by rw [ha,hi];simp [hs0]
      rw [this]
      clear ha this
      repeat' (first | apply wz1|apply wz2|apply wz3|apply wz4|apply wz5|apply wz6 | simp -dsimp (maxSteps:=999999) (disch:=omega) only[go_sem,simprocAttr, *,nfaD,u16D,issD,isD])
      refine evB_state bo137 rfl rfl (right1_ok _ n.set.length _ _ rfl) ?_ (fun _ _ h=>h.elim)
      rintro d H' ⟨rfl,rfl⟩
      simp -dsimp (maxSteps:=999999) (disch:=omega) only[go_sem,simprocAttr, *]
      refine wz7 (fun hb2=>?_) (fun hb2=>?_) <;> try simp -dsimp (maxSteps:=999999) (disch:=omega) only[go_sem,simprocAttr,decide_eq_true_eq,decide_eq_false_iff_not,Bool.not_eq_true,Bool.not_eq_false,Int.not_lt,Int.not_le] at hb2
      repeat' (first | apply wz1|apply wz2|apply wz3|apply wz4|apply wz5|apply wz6 | simp -dsimp (maxSteps:=999999) (disch:=omega) only[go_sem,simprocAttr, *])
      try rfl
    · replace ha : G = ((decide (-1 ≤ ru) && decide (ru < 16) && fr.all (isS n.set.length)) && allN (rowOk n) (j + 1) m):=by rw [ha,hi];simp [hs0]
      rcases (by by_cases h1 : ru < -1;exact .inl h1;by_cases h2 : ru < 16;exact .inr (.inr ⟨h1,h2⟩);exact .inr (.inl ⟨h1,h2⟩) : ru < -1 ∨ (¬ ru < -1 ∧ ¬ ru < 16) ∨ (¬ ru < -1 ∧ ru < 16)) with h1 | ⟨h1,h2⟩ | ⟨h1,h2⟩
      · have hx : G = false:=by rw [ha];simp;omega
        rw [hx]
        clear ha hx
        repeat' (first | apply wz1|apply wz2|apply wz3|apply wz4|apply wz5|apply wz6 | simp -dsimp (maxSteps:=999999) (disch:=omega) only[go_sem,simprocAttr, *,nfaD,u16D,issD,isD])
        refine evB_state bo137 rfl rfl (right1_ok _ n.set.length _ _ rfl) ?_ (fun _ _ h=>h.elim);rintro d H' ⟨rfl,rfl⟩;simp -dsimp (maxSteps:=999999) (disch:=omega) only[go_sem,simprocAttr, *]
        refine wz7 (fun hb2=>?_) (fun hb2=>?_) <;> try simp -dsimp (maxSteps:=999999) (disch:=omega) only[go_sem,simprocAttr,decide_eq_true_eq,decide_eq_false_iff_not,Bool.not_eq_true,Bool.not_eq_false,Int.not_lt,Int.not_le] at hb2
        repeat' (first | apply wz1|apply wz2|apply wz3|apply wz4|apply wz5|apply wz6 | simp -dsimp (maxSteps:=999999) (disch:=omega) only[go_sem,simprocAttr, *])
        try rfl
      · have hx : G = false:=by rw [ha];simp;omega
        rw [hx]
        clear ha hx
        repeat' (first | apply wz1|apply wz2|apply wz3|apply wz4|apply wz5|apply wz6 | simp -dsimp (maxSteps:=999999) (disch:=omega) only[go_sem,simprocAttr, *,nfaD,u16D,issD,isD])
        refine evB_state bo137 rfl rfl (right1_ok _ n.set.length _ _ rfl) ?_ (fun _ _ h=>h.elim);rintro d H' ⟨rfl,rfl⟩;simp -dsimp (maxSteps:=999999) (disch:=omega) only[go_sem,simprocAttr, *]
        refine wz7 (fun hb2=>?_) (fun hb2=>?_) <;> try simp -dsimp (maxSteps:=999999) (disch:=omega) only[go_sem,simprocAttr,decide_eq_true_eq,decide_eq_false_iff_not,Bool.not_eq_true,Bool.not_eq_false,Int.not_lt,Int.not_le] at hb2
        repeat' (first | apply wz1|apply wz2|apply wz3|apply wz4|apply wz5|apply wz6 | simp -dsimp (maxSteps:=999999) (disch:=omega) only[go_sem,simprocAttr, *])
        try rfl
      · replace ha : G = (fr.all (isS n.set.length) && allN (rowOk n) (j + 1) m):=by rw [ha,show decide (-1 ≤ ru) = true by simp;omega,show decide (ru < 16) = true by simp;omega];rfl
        repeat' (first | apply wz1|apply wz2|apply wz3|apply wz4|apply wz5|apply wz6 | simp -dsimp (maxSteps:=999999) (disch:=omega) only[go_sem,simprocAttr, *,nfaD,u16D,issD,isD])
        refine evB_state bo137 rfl rfl (right1_ok _ n.set.length _ _ rfl) ?_ (fun _ _ h=>h.elim);rintro d H' ⟨rfl,rfl⟩;simp -dsimp (maxSteps:=999999) (disch:=omega) only[go_sem,simprocAttr, *]
        refine wz7 (fun hb2=>?_) (fun hb2=>?_) <;> try simp -dsimp (maxSteps:=999999) (disch:=omega) only[go_sem,simprocAttr,decide_eq_true_eq,decide_eq_false_iff_not,Bool.not_eq_true,Bool.not_eq_false,Int.not_lt,Int.not_le] at hb2
        repeat' (first | apply wz1|apply wz2|apply wz3|apply wz4|apply wz5|apply wz6 | simp -dsimp (maxSteps:=999999) (disch:=omega) only[go_sem,simprocAttr, *,nfaD,u16D,issD,isD])
        have hfl : fr.length ≤ 1000000:=hf fr (List.mem_of_getElem? hf1)
        have hi0 : G = ((fr.drop 0).all (isS n.set.length) && allN (rowOk n) (j + 1) m):=ha
        clear ha
        refine wpB_loop (fun e H=>∃ i : Nat,i ≤ fr.length ∧ H = H0 ∧ e 1 = .ptr 0 0 0 ∧ e 3 = .ptr 1 0 0 ∧ e 4 = .fn 137 [.ptr 1 0 0] ∧ e 39 = .int .i64 n.set.length ∧ e 40 = .int .i64 j ∧ e 79 = isD fr ∧ e 80 = .int .i64 fr.length ∧ e 81 = .int .i64 i ∧ G = ((fr.drop i).all (isS n.set.length) && allN (rowOk n) (j + 1) m)) (fun e H=>fr.length - natOf (e 81)) ?_ ?_
        · exact ⟨0,Nat.zero_le _,rfl,gs,gs,gs,gs,gs,by simp -dsimp (maxSteps:=999999) (disch:=omega) only[go_sem,simprocAttr, *,isD],gs,gs,hi0⟩
        · clear hi0
          rintro e' H ⟨i,hi,rfl,e1,e3,e4,e39,e40,e79,e80,e81,ha⟩ R2 hR2
          simp only [H0]
          repeat' (first | apply wz1|apply wz2|apply wz3|apply wz4|apply wz5|apply wz6 | simp -dsimp (maxSteps:=999999) (disch:=omega) only[go_sem,simprocAttr, *])
          refine wz7 (fun hb3=>?_) (fun hb3=>?_) <;> try simp -dsimp (maxSteps:=999999) (disch:=omega) only[go_sem,simprocAttr,decide_eq_true_eq,decide_eq_false_iff_not,Bool.not_eq_true,Bool.not_eq_false,Int.not_lt,Int.not_le] at hb3
          · rw [allL_drop hb3] at ha
            repeat' (first | apply wz1|apply wz2|apply wz3|apply wz4|apply wz5|apply wz6 | simp -dsimp (maxSteps:=999999) (disch:=omega) only[go_sem,simprocAttr, *,isD])
            refine evB_state bo137 rfl rfl (right1_ok _ n.set.length _ _ rfl) ?_ (fun _ _ h=>h.elim)
            rintro d H' ⟨rfl,rfl⟩
            cases hq : isS n.set.length fr[i] with
            | true=>
              rw [hq,Bool.true_and] at ha
              simp -dsimp (maxSteps:=999999) (disch:=omega) only[go_sem,simprocAttr, *]
              refine wz7 (fun hb4=>?_) (fun hb4=>?_) <;> try simp -dsimp (maxSteps:=999999) (disch:=omega) only[go_sem,simprocAttr,decide_eq_true_eq,decide_eq_false_iff_not,Bool.not_eq_true,Bool.not_eq_false,Int.not_lt,Int.not_le] at hb4
              repeat' (first | apply wz1|apply wz2|apply wz3|apply wz4|apply wz5|apply wz6 | simp -dsimp (maxSteps:=999999) (disch:=omega) only[go_sem,simprocAttr, *])
              refine hR2 _ _ ⟨i + 1,by omega,rfl,gs,gs,gs,gs,gs,gs,gs,gs,ha⟩ ?_
              simp -dsimp (maxSteps:=999999) (disch:=omega) only[go_sem,simprocAttr, *,natOf_int]
            | false=>
              rw [hq,Bool.false_and,Bool.false_and] at ha
              rw [ha]
              simp -dsimp (maxSteps:=999999) (disch:=omega) only[go_sem,simprocAttr, *]
              refine wz7 (fun hb4=>?_) (fun hb4=>?_) <;> try simp -dsimp (maxSteps:=999999) (disch:=omega) only[go_sem,simprocAttr,decide_eq_true_eq,decide_eq_false_iff_not,Bool.not_eq_true,Bool.not_eq_false,Int.not_lt,Int.not_le] at hb4
              repeat' (first | apply wz1|apply wz2|apply wz3|apply wz4|apply wz5|apply wz6 | simp -dsimp (maxSteps:=999999) (disch:=omega) only[go_sem,simprocAttr, *])
              try rfl
          · rw [List.drop_eq_nil_of_le (by omega)] at ha
            have ha' : G = allN (rowOk n) (j + 1) m:=by rw [ha];rfl
            repeat' (first | apply wz1|apply wz2|apply wz3|apply wz4|apply wz5|apply wz6 | simp -dsimp (maxSteps:=999999) (disch:=omega) only[go_sem,simprocAttr, *])
            refine hR _ _ ⟨j + 1,m,by omega,rfl,gs,gs,gs,gs,gs,ha'⟩ ?_
            simp -dsimp (maxSteps:=999999) (disch:=omega) only[go_sem,simprocAttr, *,natOf_int]
    · replace ha : G = ((decide (-1 ≤ ru) && decide (ru < 16) && fr.all (isS n.set.length)) && allN (rowOk n) (j + 1) m):=by rw [ha];simp [hs0]
      rcases (by by_cases h1 : ru < -1;exact .inl h1;by_cases h2 : ru < 16;exact .inr (.inr ⟨h1,h2⟩);exact .inr (.inl ⟨h1,h2⟩) : ru < -1 ∨ (¬ ru < -1 ∧ ¬ ru < 16) ∨ (¬ ru < -1 ∧ ru < 16)) with h1 | ⟨h1,h2⟩ | ⟨h1,h2⟩
      · have hx : G = false:=by rw [ha];simp;omega
        rw [hx]
        clear ha hx
        repeat' (first | apply wz1|apply wz2|apply wz3|apply wz4|apply wz5|apply wz6 | simp -dsimp (maxSteps:=999999) (disch:=omega) only[go_sem,simprocAttr, *,nfaD,u16D,issD,isD])
        refine wz7 (fun hb2=>?_) (fun hb2=>?_) <;> try simp -dsimp (maxSteps:=999999) (disch:=omega) only[go_sem,simprocAttr,decide_eq_true_eq,decide_eq_false_iff_not,Bool.not_eq_true,Bool.not_eq_false,Int.not_lt,Int.not_le] at hb2
        repeat' (first | apply wz1|apply wz2|apply wz3|apply wz4|apply wz5|apply wz6 | simp -dsimp (maxSteps:=999999) (disch:=omega) only[go_sem,simprocAttr, *])
        try rfl
      · have hx : G = false:=by rw [ha];simp;omega
        rw [hx]
        clear ha hx
        repeat' (first | apply wz1|apply wz2|apply wz3|apply wz4|apply wz5|apply wz6 | simp -dsimp (maxSteps:=999999) (disch:=omega) only[go_sem,simprocAttr, *,nfaD,u16D,issD,isD])
        refine wz7 (fun hb2=>?_) (fun hb2=>?_) <;> try simp -dsimp (maxSteps:=999999) (disch:=omega) only[go_sem,simprocAttr,decide_eq_true_eq,decide_eq_false_iff_not,Bool.not_eq_true,Bool.not_eq_false,Int.not_lt,Int.not_le] at hb2
        repeat' (first | apply wz1|apply wz2|apply wz3|apply wz4|apply wz5|apply wz6 | simp -dsimp (maxSteps:=999999) (disch:=omega) only[go_sem,simprocAttr, *])
        try rfl
      · replace ha : G = (fr.all (isS n.set.length) && allN (rowOk n) (j + 1) m):=by rw [ha,show decide (-1 ≤ ru) = true by simp;omega,show decide (ru < 16) = true by simp;omega];rfl
        repeat' (first | apply wz1|apply wz2|apply wz3|apply wz4|apply wz5|apply wz6 | simp -dsimp (maxSteps:=999999) (disch:=omega) only[go_sem,simprocAttr, *,nfaD,u16D,issD,isD])
        refine wz7 (fun hb2=>?_) (fun hb2=>?_) <;> try simp -dsimp (maxSteps:=999999) (disch:=omega) only[go_sem,simprocAttr,decide_eq_true_eq,decide_eq_false_iff_not,Bool.not_eq_true,Bool.not_eq_false,Int.not_lt,Int.not_le] at hb2
        repeat' (first | apply wz1|apply wz2|apply wz3|apply wz4|apply wz5|apply wz6 | simp -dsimp (maxSteps:=999999) (disch:=omega) only[go_sem,simprocAttr, *,nfaD,u16D,issD,isD])
        have hfl : fr.length ≤ 1000000:=hf fr (List.mem_of_getElem? hf1)
        have hi0 : G = ((fr.drop 0).all (isS n.set.length) && allN (rowOk n) (j + 1) m):=ha
        clear ha
        refine wpB_loop (fun e H=>∃ i : Nat,i ≤ fr.length ∧ H = H0 ∧ e 1 = .ptr 0 0 0 ∧ e 3 = .ptr 1 0 0 ∧ e 4 = .fn 137 [.ptr 1 0 0] ∧ e 39 = .int .i64 n.set.length ∧ e 40 = .int .i64 j ∧ e 79 = isD fr ∧ e 80 = .int .i64 fr.length ∧ e 81 = .int .i64 i ∧ G = ((fr.drop i).all (isS n.set.length) && allN (rowOk n) (j + 1) m)) (fun e H=>fr.length - natOf (e 81)) ?_ ?_
        · exact ⟨0,Nat.zero_le _,rfl,gs,gs,gs,gs,gs,by simp -dsimp (maxSteps:=999999) (disch:=omega) only[go_sem,simprocAttr, *,isD],gs,gs,hi0⟩
        · clear hi0
          rintro e' H ⟨i,hi,rfl,e1,e3,e4,e39,e40,e79,e80,e81,ha⟩ R2 hR2
          simp only [H0]
          repeat' (first | apply wz1|apply wz2|apply wz3|apply wz4|apply wz5|apply wz6 | simp -dsimp (maxSteps:=999999) (disch:=omega) only[go_sem,simprocAttr, *])
          refine wz7 (fun hb3=>?_) (fun hb3=>?_) <;> try simp -dsimp (maxSteps:=999999) (disch:=omega) only[go_sem,simprocAttr,decide_eq_true_eq,decide_eq_false_iff_not,Bool.not_eq_true,Bool.not_eq_false,Int.not_lt,Int.not_le] at hb3
          · rw [allL_drop hb3] at ha
            repeat' (first | apply wz1|apply wz2|apply wz3|apply wz4|apply wz5|apply wz6 | simp -dsimp (maxSteps:=999999) (disch:=omega) only[go_sem,simprocAttr, *,isD])
            refine evB_state bo137 rfl rfl (right1_ok _ n.set.length _ _ rfl) ?_ (fun _ _ h=>h.elim)
            rintro d H' ⟨rfl,rfl⟩
            cases hq : isS n.set.length fr[i] with
            | true=>
              rw [hq,Bool.true_and] at ha
              simp -dsimp (maxSteps:=999999) (disch:=omega) only[go_sem,simprocAttr, *]
              refine wz7 (fun hb4=>?_) (fun hb4=>?_) <;> try simp -dsimp (maxSteps:=999999) (disch:=omega) only[go_sem,simprocAttr,decide_eq_true_eq,decide_eq_false_iff_not,Bool.not_eq_true,Bool.not_eq_false,Int.not_lt,Int.not_le] at hb4
              repeat' (first | apply wz1|apply wz2|apply wz3|apply wz4|apply wz5|apply wz6 | simp -dsimp (maxSteps:=999999) (disch:=omega) only[go_sem,simprocAttr, *])
              refine hR2 _ _ ⟨i + 1,by omega,rfl,gs,gs,gs,gs,gs,gs,gs,gs,ha⟩ ?_
              simp -dsimp (maxSteps:=999999) (disch:=omega) only[go_sem,simprocAttr, *,natOf_int]
            | false=>
              rw [hq,Bool.false_and,Bool.false_and] at ha
              rw [ha]
              simp -dsimp (maxSteps:=999999) (disch:=omega) only[go_sem,simprocAttr, *]
              refine wz7 (fun hb4=>?_) (fun hb4=>?_) <;> try simp -dsimp (maxSteps:=999999) (disch:=omega) only[go_sem,simprocAttr,decide_eq_true_eq,decide_eq_false_iff_not,Bool.not_eq_true,Bool.not_eq_false,Int.not_lt,Int.not_le] at hb4
              repeat' (first | apply wz1|apply wz2|apply wz3|apply wz4|apply wz5|apply wz6 | simp -dsimp (maxSteps:=999999) (disch:=omega) only[go_sem,simprocAttr, *])
              try rfl
          · rw [List.drop_eq_nil_of_le (by omega)] at ha
            have ha' : G = allN (rowOk n) (j + 1) m:=by rw [ha];rfl
            repeat' (first | apply wz1|apply wz2|apply wz3|apply wz4|apply wz5|apply wz6 | simp -dsimp (maxSteps:=999999) (disch:=omega) only[go_sem,simprocAttr, *])
            refine hR _ _ ⟨j + 1,m,by omega,rfl,gs,gs,gs,gs,gs,ha'⟩ ?_
            simp -dsimp (maxSteps:=999999) (disch:=omega) only[go_sem,simprocAttr, *,natOf_int]
  · obtain rfl : m = 0:=by omega
    have : G = true:=ha
    rw [this]
    repeat' (first | apply wz1|apply wz2|apply wz3|apply wz4|apply wz5|apply wz6 | simp -dsimp (maxSteps:=999999) (disch:=omega) only[go_sem,simprocAttr, *])
    try rfl
end Go.Proofs.W
end
section
namespace Go.Proofs.W
open Go Vm Go.Proofs.Zs25
end Go.Proofs.W
end
section
namespace Go.Proofs.W
open Go Vm Go.Proofs.Zs25
def tabD (k : Nat) (p : Nat → Bool) : List D:=(List.range k).map fun i=>.bool (p i)
theorem tabD_len {k : Nat} {p : Nat → Bool} : (tabD k p).length = k:=by simp [tabD]
theorem tabD_at {k : Nat} {p : Nat → Bool} {i : Nat} (h : i < k) : (tabD k p)[i]? = some (.bool (p i)):=by simp [tabD,h]
theorem tabD_set {k : Nat} {p : Nat → Bool} {x : Nat} {b : Bool} (h : x < k) : (tabD k p).set x (.bool b) = tabD k fun i=>if i = x then b else p i:=by
  refine List.ext_getElem? fun i=>?_
  rw [List.getElem?_set]
  by_cases hi : i < k
  · rw [tabD_at hi,tabD_len]
    by_cases hx : x = i
    · subst hx;simp [h,tabD]
    · rw [if_neg hx,tabD_at hi,if_neg (fun e=>hx e.symm)]
  · rw [List.getElem?_eq_none (by rw [tabD_len];omega : (tabD k p).length ≤ i),List.getElem?_eq_none (by rw [tabD_len];omega)]
    rw [if_neg (by omega)]
theorem head_tabD (k : Nat) (p : Nat → Bool) : headSize 1 (tabD k p) = true:=by
  unfold tabD
  cases List.range k <;> rfl
theorem mkBools {k : Nat} {H : Heap} (h1 : 1 ≤ k) (h2 : k ≤ 1000000) : makeSliceD Tryz.prog 104 (.int .i64 k) (.int .i64 k) H = some (.vec H.length 0 k,H ++ [.arr (tabD k fun _=>false)]):=by
  have h0 : List.replicate k (D.bool false) = tabD k fun _=>false:=by
    refine List.ext_getElem? fun i=>?_
    by_cases hi : i < k
    · rw [tabD_at hi];simp [hi]
    · rw [List.getElem?_eq_none (by simpa using hi),List.getElem?_eq_none (by rw [tabD_len];omega)]
  simp only [makeSliceD,el104,sz4,by4,zr4,Option.bind_some,Int.toNat_natCast,h0]
  rw [if_pos ⟨by omega,by omega,by simp [mostBytes];omega,by omega,rfl⟩,if_neg (by omega)]
theorem vecO_tab {k : Nat} {p : Nat → Bool} (hk : 1 ≤ k) : vecO (.arr (tabD k p)) 1 = true:=vecO_arr (fun h0=>by have:=congrArg List.length h0;rw [tabD_len] at this;simp at this;omega) (head_tabD k p)
attribute [go_sem] tabD_len tabD_at tabD_set mkBools vecSize_o vecO_tab
end Go.Proofs.W
end
section
namespace Go.Proofs.W
end Go.Proofs.W
end
section
namespace Go.Proofs.W
open Go Vm Go.Proofs.Zs25
mutual
def sizeR : Rx → Nat
  | .mk _ _ l=>sizeL l + 1
def sizeL : List Rx → Nat
  | []=>0
  | r :: l=>sizeR r + sizeL l
end
theorem sizeR_pos (r : Rx) : 0 < sizeR r:=by cases r;simp [sizeR]
mutual
theorem cnt_eq : ∀ (r : Rx) (d : Nat) (left : Int),0 ≤ left → ((cntR r d left).1 = true ↔ (sizeR r : Int) ≤ left ∧ depth r ≤ d ∧ shapesR r = true) ∧ ((cntR r d left).1 = true → (cntR r d left).2 = left - sizeR r)
  | .mk k s l,d,left,h=>by
    simp only [cntR,sizeR,depth,shapesR,Bool.and_eq_true]
    by_cases h1 : left - 1 < 0
    · rw [if_pos (.inl h1)]
      simp only [Bool.false_eq_true,false_iff,false_implies,and_true,not_and]
      omega
    by_cases h2 : d = 0
    · rw [if_pos (.inr (.inl h2))]
      simp only [Bool.false_eq_true,false_iff,false_implies,and_true,not_and]
      omega
    by_cases h3 : shape1 k s l.length = false
    · rw [if_pos (.inr (.inr h3))]
      simp [h3]
    · rw [if_neg (by simp [h1,h2,h3])]
      have:=cntL_eq l (d - 1) (left - 1) (by omega)
      simp only [Bool.not_eq_false] at h3
      simp only [h3,true_and]
      refine ⟨this.1.trans ⟨fun ⟨a,b,c⟩=>⟨by omega,by omega,c⟩,fun ⟨a,b,c⟩=>⟨by omega,by omega,c⟩⟩,fun h=>?_⟩
      rw [this.2 h];omega
theorem cntL_eq : ∀ (l : List Rx) (d : Nat) (left : Int),0 ≤ left → ((cntL l d left).1 = true ↔ (sizeL l : Int) ≤ left ∧ depthL l ≤ d ∧ shapesL l = true) ∧ ((cntL l d left).1 = true → (cntL l d left).2 = left - sizeL l)
  | [],d,left,h=>by simp [cntL,sizeL,depthL,shapesL,h]
  | r :: l,d,left,h=>by
    simp only [cntL,sizeL,depthL,shapesL,Bool.and_eq_true]
    have h1:=cnt_eq r d left h
    cases hc : (cntR r d left).1 with
    | false=>
      rw [hc] at h1
      simp only [Bool.false_eq_true,false_iff,false_implies,and_true,if_false,not_and] at h1 ⊢
      intro ha hb hs
      exact absurd hs (h1 (by omega) (by omega))
    | true=>
      rw [hc] at h1
      simp only [true_iff,if_true,forall_const] at h1 ⊢
      have h2:=cntL_eq l d (cntR r d left).2 (by omega)
      rw [h1.2] at h2 ⊢
      refine ⟨h2.1.trans ⟨fun ⟨a,b,c⟩=>⟨by omega,by omega,h1.1.2.2,c⟩,fun ⟨a,b,c⟩=>⟨by omega,by omega,c.2⟩⟩,fun h=>?_⟩
      rw [h2.2 h];omega
end
mutual
theorem nodes_size : ∀ r : Rx,nodesR r ≤ 100 ↔ sizeR r ≤ 100
  | .mk k s l=>by
    simp only [nodesR,sizeR]
    have:=nodesL_size l 1 (by omega)
    omega
theorem nodesL_size : ∀ (l : List Rx) (n : Nat),1 ≤ n → (nodesL n l ≤ 100 ↔ n + sizeL l ≤ 100)
  | [],n,h=>by simp [nodesL,sizeL]
  | r :: l,n,h=>by
    simp only [nodesL,sizeL]
    have h1:=nodes_size r
    have hp:=sizeR_pos r
    split
    · have h2:=nodesL_size l (n + nodesR r) (by omega)
      rw [h2]
      have h3:=nodes_small r
      omega
    · omega
theorem nodes_small : ∀ r : Rx,(sizeR r ≤ 100 → nodesR r = sizeR r) ∧ (100 < sizeR r → 100 < nodesR r)
  | .mk k s l=>by
    simp only [nodesR,sizeR]
    have:=nodesL_small l 1 (by omega)
    exact ⟨fun h=>by have:=this.1 (by omega);omega,fun h=>by have:=this.2 (by omega);omega⟩
theorem nodesL_small : ∀ (l : List Rx) (n : Nat),1 ≤ n → (n + sizeL l ≤ 100 → nodesL n l = n + sizeL l) ∧ (100 < n + sizeL l → 100 < nodesL n l)
  | [],n,h=>by simp [nodesL,sizeL]
  | r :: l,n,h=>by
    simp only [nodesL,sizeL]
    have h1:=nodes_small r
    have hp:=sizeR_pos r
    split
    · rename_i hn
      have h2:=nodesL_small l (n + nodesR r) (by omega)
      refine ⟨fun ha=>?_,fun ha=>?_⟩
      · have e1:=h1.1 (by omega)
        rw [e1] at h2 ⊢
        have:=h2.1 (by omega);omega
      · rcases Nat.lt_or_ge 100 (sizeR r) with hb | hb
        · have:=h1.2 hb
          exact h2.2 (by omega)
        · have e1:=h1.1 hb
          rw [e1] at h2 ⊢
          exact h2.2 (by omega)
    · exact ⟨fun ha=>by omega,fun ha=>by omega⟩
end
theorem cnt_right (r : Rx) : (cntR r 12 100).1 = rightR r:=by
  have h:=(cnt_eq r 12 100 (by omega)).1
  have hn:=nodes_size r
  unfold rightR
  rw [Bool.eq_iff_iff,h]
  simp only [Bool.and_eq_true,decide_eq_true_eq]
  constructor
  · rintro ⟨a,b,c⟩;exact ⟨⟨b,by omega⟩,c⟩
  · rintro ⟨⟨a,b⟩,c⟩;exact ⟨by omega,a,c⟩
theorem rightP_ok (r : Rx) (hr : okR r) : PureF Tryz.prog A 68 [rxD r] (.bool (rightR r)):=by
  rw [← cnt_right]
  have hc:=count_ok 12 (by omega) r hr 100 (by omega) (by omega)
  have c1:=rx_cells r
  have c2:=rx_aggQ r
  have c3:=rx_noTup r
  refine evF_inB (n:=6) (rs:=[.tmp 2]) Tryz.func68 rfl rfl rfl rfl rfl rfl ?_
  generalize rxD r = d at *
  have hc1 : EvF Tryz.prog A 87 [d,.int .i64 12,.ptr 1 0 0] [Ob.arr [d],Ob.arr [.int .i64 100]] (fun x H'=>x = .bool (cntR r 12 100).1 ∧ PtrTo [Ob.arr [d],Ob.arr [.int .i64 100]] H' 1 (.int .i64 (cntR r 12 100).2)) (fun _ _=>False):=hc _ 1 rfl
  repeat' (first | apply wz1|apply wz2|apply wz3|apply wz4|apply wz5|apply wz6 | simp -dsimp (maxSteps:=999999) (disch:=omega) only[go_sem,simprocAttr, *])
  refine evB_state bo87 rfl rfl hc1 ?_ (fun _ _ h=>h.elim)
  rintro _ H' ⟨rfl,hP⟩
  simp -dsimp (maxSteps:=999999) (disch:=omega) only[go_sem,simprocAttr, *]
  repeat' (first | apply wz1|apply wz2|apply wz3|apply wz4|apply wz5|apply wz6 | simp -dsimp (maxSteps:=999999) (disch:=omega) only[go_sem,simprocAttr, *])
def emptyR : Rx → Bool
  | .mk k _ l=>if k = 1 then false else if k = 2 then emptyAll l else if k = 3 then emptyAny l else true
where
  emptyAll : List Rx → Bool
  | []=>true
  | r :: l=>emptyR r && emptyAll l
  emptyAny : List Rx → Bool
  | []=>false
  | r :: l=>emptyR r || emptyAny l
end Go.Proofs.W
end
section
namespace Go.Proofs.W
end Go.Proofs.W
end
section
namespace Go.Proofs.W
open Go Vm Go.Proofs.Zs25
def bsD (l : List Bool) : List D:=l.map .bool
def bitZ (s c : Int) : Bool:=IntKind.u16.wrap (BitVec.ofInt IntKind.u16.bits (s.fdiv (2 ^ (min c.toNat IntKind.u16.bits))) &&& BitVec.ofInt IntKind.u16.bits 1).toNat == 1
def inB (s c : Int) : Bool:=decide (0 ≤ c) && decide (c < 16) && bitZ s c
def stepB (s : Int) (w : List Int) (fl : List Bool) : List Bool:=false :: List.zipWith (fun b c=>b && inB s c) fl w
def orB (a b : List Bool) : List Bool:=List.zipWith (· || ·) a b
def roundsB (f : List Bool → List Bool) (one : Bool) : Nat → List Bool → List Bool
  | 0,l=>l
  | n + 1,l=>if one = true ∨ orB l (f l) = l then orB l (f l) else roundsB f one n (orB l (f l))
mutual
def endsR (w : List Int) : Rx → List Bool → List Bool
  | .mk k s l, fl => if k = 0 then fl else if k = 1 then stepB s w fl else if k = 2 then endsCat w l fl else if k = 3 then endsAlt w l fl (List.replicate (w.length + 1) false)
      else if k = 4 ∨ k = 5 then roundsB (endsOne w l) (k == 5) (w.length + 1) fl else List.replicate (w.length + 1) false
def endsCat (w : List Int) : List Rx → List Bool → List Bool
  | [],fl=>fl
  | r :: l,fl=>endsCat w l (endsR w r fl)
def endsAlt (w : List Int) : List Rx → List Bool → List Bool → List Bool
  | [],_,acc=>acc
  | r :: l,fl,acc=>endsAlt w l fl (orB acc (endsR w r fl))
def endsOne (w : List Int) : List Rx → List Bool → List Bool
  | [],fl=>fl
  | r :: _,fl=>endsR w r fl
end
theorem orB_len {a b : List Bool} {n : Nat} (h : a.length = n) (g : b.length = n) : (orB a b).length = n:=by simp [orB,h,g]
theorem rounds_len {f : List Bool → List Bool} {n : Nat} (hf : ∀ l,l.length = n → (f l).length = n) {one : Bool} : ∀ (m : Nat) (l : List Bool),l.length = n → (roundsB f one m l).length = n
  | 0,l,h=>h
  | m + 1,l,h=>by
    simp only [roundsB]
    have:=orB_len h (hf l h)
    split
    · exact this
    · exact rounds_len hf m _ this
mutual
theorem ends_len (w : List Int) : ∀ (r : Rx) (fl : List Bool),fl.length = w.length + 1 → (endsR w r fl).length = w.length + 1
  | .mk k s l,fl,h=>by
    simp only [endsR]
    split
    · exact h
    split
    · simp [stepB,h]
    split
    · exact endsCat_len w l fl h
    split
    · exact endsAlt_len w l fl _ h (by simp)
    split
    · exact rounds_len (fun x hx=>endsOne_len w l x hx) _ fl h
    · simp
theorem endsCat_len (w : List Int) : ∀ (l : List Rx) (fl : List Bool),fl.length = w.length + 1 → (endsCat w l fl).length = w.length + 1
  | [],fl,h=>h
  | r :: l,fl,h=>endsCat_len w l _ (ends_len w r fl h)
theorem endsAlt_len (w : List Int) : ∀ (l : List Rx) (fl acc : List Bool),fl.length = w.length + 1 → acc.length = w.length + 1 → (endsAlt w l fl acc).length = w.length + 1
  | [],fl,acc,h,g=>g
  | r :: l,fl,acc,h,g=>endsAlt_len w l fl _ h (orB_len g (ends_len w r fl h))
theorem endsOne_len (w : List Int) : ∀ (l : List Rx) (fl : List Bool),fl.length = w.length + 1 → (endsOne w l fl).length = w.length + 1
  | [],fl,h=>h
  | r :: _,fl,h=>ends_len w r fl h
end
theorem vs_bools {H : Heap} {q : Nat} {l : List Bool} (h : hget H q = .arr (bsD l)) (hl : 0 < l.length) : vecSize H q 1 = true:=by
  refine vecSize_of h ?_ ?_
  · cases l with
    | nil=>simp at hl
    | cons b l=>simp [bsD]
  · cases l <;> rfl
theorem bs_at {l : List Bool} {i : Nat} (h : i < l.length) : (bsD l)[i]? = some (.bool l[i]):=by simp [bsD,h]
theorem bs_set {l : List Bool} {i : Nat} {b : Bool} : (bsD l).set i (.bool b) = bsD (l.set i b):=by simp [bsD,List.map_set]
theorem mk_bools {n : Int} {H : Heap} (h0 : 0 < n) (h1 : n ≤ 1000000) : makeSliceD Tryz.prog 104 (.int .i64 n) (.int .i64 n) H = some (.vec H.length 0 n.toNat,H ++ [Ob.arr (bsD (List.replicate n.toNat false))]):=by
  simp only [makeSliceD,el104,sz104,sz4,by4,zr4,Option.bind_some]
  have hcond : 0 ≤ n ∧ n ≤ n ∧ n.toNat * 1 ≤ mostBytes ∧ n < 2 ^ 62 ∧ (D.bool false).cells.length = 1:=⟨by omega,Int.le_refl _,by simp only [mostBytes];omega,by omega,rfl⟩
  rw [if_pos hcond,if_neg (by omega)]
  simp [bsD]
def stepL (s : Int) (w : List Int) (fl : List Bool) (j : Nat) : List Bool:=(stepB s w fl).take (j + 1) ++ List.replicate (w.length - j) false
theorem stepL_len {s : Int} {w : List Int} {fl : List Bool} (h : fl.length = w.length + 1) (j : Nat) (hj : j ≤ w.length) : (stepL s w fl j).length = w.length + 1:=by simp [stepL,stepB,h];omega
theorem stepL_zero {s : Int} {w : List Int} {fl : List Bool} (h : fl.length = w.length + 1) : stepL s w fl 0 = List.replicate (w.length + 1) false:=by simp [stepL,stepB,List.replicate_succ]
theorem stepL_end {s : Int} {w : List Int} {fl : List Bool} (h : fl.length = w.length + 1) : stepL s w fl w.length = stepB s w fl:=by
  simp only [stepL,Nat.sub_self,List.replicate_zero,List.append_nil]
  exact List.take_of_length_le (by simp [stepB,h])
theorem stepL_next {s : Int} {w : List Int} {fl : List Bool} (h : fl.length = w.length + 1) {j : Nat} (hj : j < w.length) : stepL s w fl (j + 1) = (stepL s w fl j).set (j + 1) (fl[j] && inB s w[j]):=by
  have hS : (stepB s w fl)[j + 1]? = some (fl[j] && inB s w[j]):=by
    simp only [stepB,List.getElem?_cons_succ]
    rw [List.getElem?_zipWith,List.getElem?_eq_getElem (by omega),List.getElem?_eq_getElem hj]
  have hlen : ((stepB s w fl).take (j + 1)).length = j + 1:=by simp [stepB,h];omega
  unfold stepL
  rw [List.take_add_one (i:=j + 1),hS,show w.length - j = (w.length - (j + 1)) + 1 by omega,List.replicate_succ,List.set_append_right _ _ (by omega),hlen,Nat.sub_self]
  simp
theorem stepL_same {s : Int} {w : List Int} {fl : List Bool} (h : fl.length = w.length + 1) {j : Nat} (hj : j < w.length) : (stepL s w fl j).set (j + 1) false = stepL s w fl j:=by
  have hlen : ((stepB s w fl).take (j + 1)).length = j + 1:=by simp [stepB,h];omega
  unfold stepL
  rw [show w.length - j = (w.length - (j + 1)) + 1 by omega,List.replicate_succ,List.set_append_right _ _ (by omega),hlen,Nat.sub_self]
  simp
def orL (a x : List Bool) (i : Nat) : List Bool:=(orB a x).take i ++ a.drop i
theorem orL_zero {a x : List Bool} : orL a x 0 = a:=by simp [orL]
theorem orL_end {a x : List Bool} {n : Nat} (h : a.length = n) (g : x.length = n) : orL a x n = orB a x:=by
  simp only [orL]
  rw [List.take_of_length_le (by rw [orB_len h g];omega),List.drop_eq_nil_of_le (by omega),List.append_nil]
theorem orL_len {a x : List Bool} {n i : Nat} (h : a.length = n) (g : x.length = n) (hi : i ≤ n) : (orL a x i).length = n:=by
  simp [orL,orB_len h g,h];omega
theorem orL_at {a x : List Bool} {n i : Nat} (h : a.length = n) (g : x.length = n) (hi : i < n) : (orL a x i)[i]? = some a[i]:=by
  have hl : ((orB a x).take i).length = i:=by simp [orB_len h g];omega
  simp only [orL]
  rw [List.getElem?_append_right (by omega),hl,Nat.sub_self,List.getElem?_drop,Nat.add_zero,List.getElem?_eq_getElem (by omega)]
theorem orL_next {a x : List Bool} {n i : Nat} (h : a.length = n) (g : x.length = n) (hi : i < n) : orL a x (i + 1) = (orL a x i).set i (a[i] || x[i]):=by
  have hl : ((orB a x).take i).length = i:=by simp [orB_len h g];omega
  have hx : (orB a x)[i]? = some (a[i] || x[i]):=by
    simp only [orB]
    rw [List.getElem?_zipWith,List.getElem?_eq_getElem (by omega),List.getElem?_eq_getElem (by omega)]
  simp only [orL]
  rw [List.take_add_one,hx,List.set_append_right _ _ (by omega),hl,Nat.sub_self,List.drop_eq_getElem_cons (show i < a.length by omega),List.set_cons_zero]
  simp only [Option.toList_some,List.append_assoc,List.cons_append,List.nil_append]
def moreL (a x : List Bool) : Nat → Bool
  | 0=>false
  | i + 1=>moreL a x i || (x.getD i false && !a.getD i false)
theorem more_same {a x : List Bool} {n : Nat} (h : a.length = n) (g : x.length = n) : moreL a x n = false ↔ orB a x = a:=by
  have key : ∀ i,moreL a x i = false ↔ ∀ j,j < i → (x.getD j false && !a.getD j false) = false:=by
    intro i
    induction i with
    | zero=>simp [moreL]
    | succ i ih=>
      simp only [moreL,Bool.or_eq_false_iff,ih]
      constructor
      · rintro ⟨h1,h2⟩ j hj
        rcases Nat.lt_succ_iff_lt_or_eq.1 hj with hj | rfl
        · exact h1 j hj
        · exact h2
      · exact fun h=>⟨fun j hj=>h j (by omega),h i (by omega)⟩
  rw [key]
  constructor
  · intro hh
    apply List.ext_getElem (by rw [orB_len h g,h])
    intro j h1 h2
    have:=hh j (by omega)
    simp only [List.getD,List.getElem?_eq_getElem (show j < x.length by omega),List.getElem?_eq_getElem h2,Option.getD_some] at this
    simp only [orB,List.getElem_zipWith]
    cases hx : x[j] <;> cases ha : a[j] <;> simp_all
  · intro hh j hj
    have h2 : (orB a x)[j]'(by rw [orB_len h g];omega) = a[j]:=by simp only [hh]
    simp only [orB,List.getElem_zipWith] at h2
    simp only [List.getD,List.getElem?_eq_getElem (show j < x.length by omega),List.getElem?_eq_getElem (show j < a.length by omega),Option.getD_some]
    cases hx : x[j] <;> cases ha : a[j] <;> simp_all
def EndsQ (H : Heap) (n : Nat) (l : List Bool) (d : D) (H' : Heap) : Prop:=Same H.length H H' ∧ ∃ p,H.length ≤ p ∧ d = .vec p 0 n ∧ hget H' p = .arr (bsD l)
structure St (H0 H : Heap) (m q : Nat) (R : D) (fl : List Bool) : Prop where
  same : Same m H0 H
  rx : hget H m = .arr [R]
  fr : hget H q = .arr (bsD fl)
  lt : q < m
theorem St.set {H0 H : Heap} {m q p : Nat} {R : D} {fl : List Bool} {ob : Ob} (h : St H0 H m q R fl) (hp : m < p) : St H0 (H.set p ob) m q R fl:=
  ⟨h.same.trans (Same.set (by omega)),by rw [hget_set_ne (by omega)];exact h.rx,by have:=h.lt;rw [hget_set_ne (by omega)];exact h.fr,h.lt⟩
theorem St.call {H0 H H' : Heap} {m q : Nat} {R : D} {fl : List Bool} (h : St H0 H m q R fl) (g : Same H.length H H') : St H0 H' m q R fl:=by
  have h1:=lt_of_hget h.rx
  have h2:=h.lt
  exact ⟨h.same.trans (g.le (by omega)),by rw [g.2 m h1];exact h.rx,by rw [g.2 q (by omega)];exact h.fr,h.lt⟩
theorem take_set {α : Type} {L F : List α} {j : Nat} {x : α} (hL : j < L.length) (h : L.take j = F.take j) (hx : F[j]? = some x) : (L.set j x).take (j + 1) = F.take (j + 1):=by
  rw [List.take_add_one,List.take_add_one,List.take_set,h,hx]
  have : (L.set j x)[j]? = some x:=by simp [hL]
  rw [this]
  rw [List.set_eq_of_length_le (by simp;omega)]
theorem ends_ok (w : List Int) (hw : w.length ≤ 1000) : ∀ (d : Nat) (r : Rx) (hr : okR r) (hd : depth r ≤ d) (hs : shapesR r = true) (fl : List Bool) (hfl : fl.length = w.length + 1) (H : Heap) (q : Nat) (hq : hget H q = .arr (bsD fl)),
    EvF Tryz.prog A 41 [rxD r,isD w,.vec q 0 (w.length + 1)] H (EndsQ H (w.length + 1) (endsR w r fl)) (fun _ _=>False):=by
  intro d
  induction d with
  | zero=>rintro ⟨k,s,l⟩ _ h;simp [depth] at h
  | succ d ih=>
    rintro ⟨k,s,l⟩ hr hd hs fl hfl H q hq
    have hkid : ∀ x ∈ l,depth x ≤ d:=fun x hx=>by have:=depth_kid (k:=k) (s:=s) hx;omega
    have hsk : ∀ x ∈ l,shapesR x = true:=by
      simp only [shapesR,Bool.and_eq_true,shapesL_eq] at hs
      exact fun x hx=>List.all_eq_true.1 hs.2 x hx
    obtain ⟨hk0,hk1,hs0,hs1,hlen,hok⟩:=hr
    have hqlt:=lt_of_hget hq
    have hmk:=fun H=>mk_bools (n:=(w.length : Int) + 1) (H:=H) (by omega) (by omega)
    have hnat : ((w.length : Int) + 1).toNat = w.length + 1:=by omega
    simp only [hnat] at hmk
    refine evF_inB (n:=219) (rs:=[.tmp 6]) Tryz.func41 rfl rfl rfl rfl rfl rfl ?_
    (refine wz1 ?_;refine wz2 ?_;simp -dsimp (maxSteps:=999999) (disch:=omega) only[go_sem,simprocAttr, *,isD])
    (refine wz1 ?_;refine wz2 ?_;simp -dsimp (maxSteps:=999999) (disch:=omega) only[go_sem,simprocAttr, *,isD])
    refine wpB_heap (fun H1=>St H H1 H.length q (rxD (.mk k s l)) fl ∧ hget H1 (H.length + 1) = .arr (bsD (List.replicate (w.length + 1) false))) ?_ ?_
    · refine ⟨⟨⟨by simp,fun i hi=>?_⟩,?_,?_,hqlt⟩,?_⟩
      · rw [List.append_assoc,hget_app_lt hi]
      · rw [List.append_assoc,hget_app0];rfl
      · rw [List.append_assoc,hget_app_lt hqlt];exact hq
      · rw [List.append_assoc];exact hget_app (H:=H) (k:=1)
    · clear hmk hq
      generalize hm : H.length = m at *
      rintro H1 ⟨hst,hout⟩
      refine wpB_mid (fun e Hx=>∃ p,m ≤ p ∧ e 7 = .vec p 0 (w.length + 1) ∧ hget Hx p = .arr (bsD (endsR w (.mk k s l) fl)) ∧ Same m H Hx) ?_ ?_
      · intro R hR
        have hrx:=hst.rx
        by_cases h0 : k = 0
        · subst h0
          have he : endsR w (.mk 0 s l) fl = fl:=by simp [endsR]
          rw [he] at hR
          repeat' (first | apply wz1|apply wz2|apply wz3|apply wz4|apply wz5|apply wz6 | simp -dsimp (maxSteps:=999999) (disch:=omega) only[go_sem,simprocAttr, *])
          refine wz7 (fun hb=>?_) (fun hb=>?_) <;> try simp -dsimp (maxSteps:=999999) (disch:=omega) only[go_sem,simprocAttr,decide_eq_true_eq,decide_eq_false_iff_not,Bool.not_eq_true,Bool.not_eq_false,Int.not_lt,Int.not_le] at hb
          repeat' (first | apply wz1|apply wz2|apply wz3|apply wz4|apply wz5|apply wz6 | simp -dsimp (maxSteps:=999999) (disch:=omega) only[go_sem,simprocAttr, *])
          refine wpB_loop (fun e Hx=>∃ (j : Nat) (L : List Bool),j ≤ w.length + 1 ∧ L.length = w.length + 1 ∧ L.take j = fl.take j ∧ St H Hx m q (rxD (.mk 0 s l)) fl ∧ hget Hx (m + 1) = .arr (bsD L) ∧ e 1 = isD w ∧ e 2 = .vec q 0 (w.length + 1) ∧ e 3 = .ptr m 0 0 ∧ e 7 = .vec (m + 1) 0 (w.length + 1) ∧ e 8 = .int .i64 j) (fun e H=>w.length + 1 - natOf (e 8)) ?_ ?_
          · exact ⟨0,List.replicate (w.length + 1) false,by omega,by simp,rfl,hst,hout,by simp -dsimp (maxSteps:=999999) (disch:=omega) only[go_sem,simprocAttr, *,isD],gs,gs,gs,rfl⟩
          · clear hst hout
            rintro e Hx ⟨j,L,hj,hL,htk,hst,hout,e1,e2,e3,e7,e8⟩ R2 hR2
            have hv1:=vs_bools hout (by omega)
            have hv2:=vs_bools hst.fr (by omega)
            have hfr:=hst.fr
            repeat' (first | apply wz1|apply wz2|apply wz3|apply wz4|apply wz5|apply wz6 | simp -dsimp (maxSteps:=999999) (disch:=omega) only[go_sem,simprocAttr, *])
            refine wz7 (fun hb2=>?_) (fun hb2=>?_) <;> try simp -dsimp (maxSteps:=999999) (disch:=omega) only[go_sem,simprocAttr,decide_eq_true_eq,decide_eq_false_iff_not,Bool.not_eq_true,Bool.not_eq_false,Int.not_lt,Int.not_le] at hb2
            · have hlt : j < w.length + 1:=by omega
              have hx:=bs_at (l:=fl) (i:=j) (by omega)
              have hy:=bs_at (l:=L) (i:=j) (by omega)
              repeat' (first | apply wz1|apply wz2|apply wz3|apply wz4|apply wz5|apply wz6 | simp -dsimp (maxSteps:=999999) (disch:=omega) only[go_sem,simprocAttr, *])
              refine hR2 _ _ ⟨j + 1,L.set j fl[j],by omega,by simp [hL],take_set (by omega) htk (List.getElem?_eq_getElem (by omega)),?_,?_,gs,gs,gs,gs,gs⟩ ?_
              · exact hst.set (by omega)
              · rw [bs_set];exact hget_set_eq (lt_of_hget hout)
              · simp -dsimp (maxSteps:=999999) (disch:=omega) only[go_sem,simprocAttr, *,natOf_int]
            · rw [List.take_of_length_le (by omega),List.take_of_length_le (by omega)] at htk
              subst htk
              repeat' (first | apply wz1|apply wz2|apply wz3|apply wz4|apply wz5|apply wz6 | simp -dsimp (maxSteps:=999999) (disch:=omega) only[go_sem,simprocAttr, *])
              exact hR _ _ ⟨m + 1,by omega,gs,hout,hst.same⟩
        by_cases h1 : k = 1
        · subst h1
          have he : endsR w (.mk 1 s l) fl = stepB s w fl:=by simp [endsR]
          rw [he] at hR
          repeat' (first | apply wz1|apply wz2|apply wz3|apply wz4|apply wz5|apply wz6 | simp -dsimp (maxSteps:=999999) (disch:=omega) only[go_sem,simprocAttr, *])
          refine wz7 (fun hb=>?_) (fun hb=>?_) <;> try simp -dsimp (maxSteps:=999999) (disch:=omega) only[go_sem,simprocAttr,decide_eq_true_eq,decide_eq_false_iff_not,Bool.not_eq_true,Bool.not_eq_false,Int.not_lt,Int.not_le] at hb
          repeat' (first | apply wz1|apply wz2|apply wz3|apply wz4|apply wz5|apply wz6 | simp -dsimp (maxSteps:=999999) (disch:=omega) only[go_sem,simprocAttr, *])
          refine wz7 (fun hb=>?_) (fun hb=>?_) <;> try simp -dsimp (maxSteps:=999999) (disch:=omega) only[go_sem,simprocAttr,decide_eq_true_eq,decide_eq_false_iff_not,Bool.not_eq_true,Bool.not_eq_false,Int.not_lt,Int.not_le] at hb
          repeat' (first | apply wz1|apply wz2|apply wz3|apply wz4|apply wz5|apply wz6 | simp -dsimp (maxSteps:=999999) (disch:=omega) only[go_sem,simprocAttr, *])
          refine wpB_loop (fun e Hx=>∃ (j : Nat),j ≤ w.length ∧ St H Hx m q (rxD (.mk 1 s l)) fl ∧ hget Hx (m + 1) = .arr (bsD (stepL s w fl j)) ∧ e 1 = isD w ∧ e 2 = .vec q 0 (w.length + 1) ∧ e 3 = .ptr m 0 0 ∧ e 7 = .vec (m + 1) 0 (w.length + 1) ∧ e 9 = .int .i64 j) (fun e H=>w.length - natOf (e 9)) ?_ ?_
          · exact ⟨0,by omega,hst,by rw [stepL_zero hfl];exact hout,by simp -dsimp (maxSteps:=999999) (disch:=omega) only[go_sem,simprocAttr, *,isD],gs,gs,gs,rfl⟩
          · clear hst hout hrx
            rintro e Hx ⟨j,hj,hst,hout,e1,e2,e3,e7,e9⟩ R2 hR2
            have hLl:=stepL_len (s:=s) hfl j (by omega)
            have hv1:=vs_bools hout (by omega)
            have hv2:=vs_bools hst.fr (by omega)
            have hfr:=hst.fr
            have hrx:=hst.rx
            repeat' (first | apply wz1|apply wz2|apply wz3|apply wz4|apply wz5|apply wz6 | simp -dsimp (maxSteps:=999999) (disch:=omega) only[go_sem,simprocAttr, *,isD])
            refine wz7 (fun hb2=>?_) (fun hb2=>?_) <;> try simp -dsimp (maxSteps:=999999) (disch:=omega) only[go_sem,simprocAttr,decide_eq_true_eq,decide_eq_false_iff_not,Bool.not_eq_true,Bool.not_eq_false,Int.not_lt,Int.not_le] at hb2
            · have hx:=bs_at (l:=fl) (i:=j) (by omega)
              have hnext:=stepL_next (s:=s) hfl hb2
              by_cases c1 : fl[j] = true
              · by_cases c2 : 0 ≤ w[j]
                · by_cases c3 : w[j] < 16
                  · cases hbz : bitZ s w[j] with
                    | true=>
                      have hz : (fl[j] && inB s w[j]) = true:=by simp [inB,c1,c2,c3,hbz]
                      simp only [bitZ] at hbz
                      rw [hz] at hnext
                      have hy:=bs_at (l:=stepL s w fl j) (i:=j + 1) (by omega)
                      repeat' (first | apply wz1|apply wz2|apply wz3|apply wz4|apply wz5|apply wz6 | simp -dsimp (maxSteps:=999999) (disch:=omega) only[go_sem,simprocAttr, *,isD])
                      refine wpB_regionXL (prs:=[]) (by kernel_rfl) rfl (by kernel_rfl) ?_;simp -dsimp (maxSteps:=999999) (disch:=omega) only[go_sem,simprocAttr, *,isD]
                      refine wz7 (fun hb3=>?_) (fun hb3=>?_) <;> try simp -dsimp (maxSteps:=999999) (disch:=omega) only[go_sem,simprocAttr,decide_eq_true_eq,decide_eq_false_iff_not,Bool.not_eq_true,Bool.not_eq_false,Int.not_lt,Int.not_le] at hb3
                      · repeat' (first | apply wz1|apply wz2|apply wz3|apply wz4|apply wz5|apply wz6 | simp -dsimp (maxSteps:=999999) (disch:=omega) only[go_sem,simprocAttr, *,isD])
                        refine hR2 _ _ ⟨j + 1,by omega,hst.set (by omega),?_,gs,gs,gs,gs,gs⟩ ?_
                        · rw [hnext,← bs_set];exact hget_set_eq (lt_of_hget hout)
                        · simp -dsimp (maxSteps:=999999) (disch:=omega) only[go_sem,simprocAttr, *,natOf_int]
                      · exact absurd (hbz.symm.trans hb3) (by decide)
                    | false=>
                      have hz : (fl[j] && inB s w[j]) = false:=by simp [inB,hbz]
                      rw [hz] at hnext
                      have hsame : (stepL s w fl j).set (j + 1) false = stepL s w fl j:=stepL_same hfl hb2
                      rw [hsame] at hnext
                      clear hz hsame
                      simp only [bitZ] at hbz
                      repeat' (first | apply wz1|apply wz2|apply wz3|apply wz4|apply wz5|apply wz6 | simp -dsimp (maxSteps:=999999) (disch:=omega) only[go_sem,simprocAttr, *,isD])
                      refine wpB_regionXL (prs:=[]) (by kernel_rfl) rfl (by kernel_rfl) ?_;simp -dsimp (maxSteps:=999999) (disch:=omega) only[go_sem,simprocAttr, *,isD]
                      refine wz7 (fun hb3=>?_) (fun hb3=>?_) <;> try simp -dsimp (maxSteps:=999999) (disch:=omega) only[go_sem,simprocAttr,decide_eq_true_eq,decide_eq_false_iff_not,Bool.not_eq_true,Bool.not_eq_false,Int.not_lt,Int.not_le] at hb3
                      · exact absurd (hbz.symm.trans hb3) (by decide)
                      · repeat' (first | apply wz1|apply wz2|apply wz3|apply wz4|apply wz5|apply wz6 | simp -dsimp (maxSteps:=999999) (disch:=omega) only[go_sem,simprocAttr, *,isD])
                        refine hR2 _ _ ⟨j + 1,by omega,hst,by rw [hnext];exact hout,gs,gs,gs,gs,gs⟩ ?_
                        simp -dsimp (maxSteps:=999999) (disch:=omega) only[go_sem,simprocAttr, *,natOf_int]
                  · have hz0:=c3
                    have hz : (fl[j] && inB s w[j]) = false:=by simp [inB,c3]
                    rw [hz] at hnext
                    have hsame : (stepL s w fl j).set (j + 1) false = stepL s w fl j:=stepL_same hfl hb2
                    rw [hsame] at hnext
                    clear hz hsame
                    repeat' (first | apply wz1|apply wz2|apply wz3|apply wz4|apply wz5|apply wz6 | simp -dsimp (maxSteps:=999999) (disch:=omega) only[go_sem,simprocAttr, *,isD])
                    refine wpB_regionXL (prs:=[]) (by kernel_rfl) rfl (by kernel_rfl) ?_;simp -dsimp (maxSteps:=999999) (disch:=omega) only[go_sem,simprocAttr, *,isD]
                    refine wz7 (fun hb3=>?_) (fun hb3=>?_) <;> try simp -dsimp (maxSteps:=999999) (disch:=omega) only[go_sem,simprocAttr,decide_eq_true_eq,decide_eq_false_iff_not,Bool.not_eq_true,Bool.not_eq_false,Int.not_lt,Int.not_le] at hb3
                    repeat' (first | apply wz1|apply wz2|apply wz3|apply wz4|apply wz5|apply wz6 | simp -dsimp (maxSteps:=999999) (disch:=omega) only[go_sem,simprocAttr, *,isD])
                    refine hR2 _ _ ⟨j + 1,by omega,hst,by rw [hnext];exact hout,gs,gs,gs,gs,gs⟩ ?_
                    simp -dsimp (maxSteps:=999999) (disch:=omega) only[go_sem,simprocAttr, *,natOf_int]
                · have hz0:=c2
                  have hz : (fl[j] && inB s w[j]) = false:=by simp [inB,c2]
                  rw [hz] at hnext
                  have hsame : (stepL s w fl j).set (j + 1) false = stepL s w fl j:=stepL_same hfl hb2
                  rw [hsame] at hnext
                  clear hz hsame
                  repeat' (first | apply wz1|apply wz2|apply wz3|apply wz4|apply wz5|apply wz6 | simp -dsimp (maxSteps:=999999) (disch:=omega) only[go_sem,simprocAttr, *,isD])
                  refine wpB_regionXL (prs:=[]) (by kernel_rfl) rfl (by kernel_rfl) ?_;simp -dsimp (maxSteps:=999999) (disch:=omega) only[go_sem,simprocAttr, *,isD]
                  refine wz7 (fun hb3=>?_) (fun hb3=>?_) <;> try simp -dsimp (maxSteps:=999999) (disch:=omega) only[go_sem,simprocAttr,decide_eq_true_eq,decide_eq_false_iff_not,Bool.not_eq_true,Bool.not_eq_false,Int.not_lt,Int.not_le] at hb3
                  repeat' (first | apply wz1|apply wz2|apply wz3|apply wz4|apply wz5|apply wz6 | simp -dsimp (maxSteps:=999999) (disch:=omega) only[go_sem,simprocAttr, *,isD])
                  refine hR2 _ _ ⟨j + 1,by omega,hst,by rw [hnext];exact hout,gs,gs,gs,gs,gs⟩ ?_
                  simp -dsimp (maxSteps:=999999) (disch:=omega) only[go_sem,simprocAttr, *,natOf_int]
              · simp only [Bool.not_eq_true] at c1
                have hz : (fl[j] && inB s w[j]) = false:=by simp [inB,c1]
                rw [hz] at hnext
                have hsame : (stepL s w fl j).set (j + 1) false = stepL s w fl j:=stepL_same hfl hb2
                rw [hsame] at hnext
                clear hz hsame
                repeat' (first | apply wz1|apply wz2|apply wz3|apply wz4|apply wz5|apply wz6 | simp -dsimp (maxSteps:=999999) (disch:=omega) only[go_sem,simprocAttr, *,isD])
                refine wpB_regionXL (prs:=[]) (by kernel_rfl) rfl (by kernel_rfl) ?_;simp -dsimp (maxSteps:=999999) (disch:=omega) only[go_sem,simprocAttr, *,isD]
                refine wz7 (fun hb3=>?_) (fun hb3=>?_) <;> try simp -dsimp (maxSteps:=999999) (disch:=omega) only[go_sem,simprocAttr,decide_eq_true_eq,decide_eq_false_iff_not,Bool.not_eq_true,Bool.not_eq_false,Int.not_lt,Int.not_le] at hb3
                repeat' (first | apply wz1|apply wz2|apply wz3|apply wz4|apply wz5|apply wz6 | simp -dsimp (maxSteps:=999999) (disch:=omega) only[go_sem,simprocAttr, *,isD])
                refine hR2 _ _ ⟨j + 1,by omega,hst,by rw [hnext];exact hout,gs,gs,gs,gs,gs⟩ ?_
                simp -dsimp (maxSteps:=999999) (disch:=omega) only[go_sem,simprocAttr, *,natOf_int]
            · have hjw : j = w.length:=by omega
              subst hjw
              rw [stepL_end hfl] at hout
              repeat' (first | apply wz1|apply wz2|apply wz3|apply wz4|apply wz5|apply wz6 | simp -dsimp (maxSteps:=999999) (disch:=omega) only[go_sem,simprocAttr, *])
              exact hR _ _ ⟨m + 1,by omega,gs,hout,hst.same⟩
        by_cases h2 : k = 2
        · subst h2
          have he : endsR w (.mk 2 s l) fl = endsCat w l fl:=by simp [endsR]
          rw [he] at hR
          repeat' (first | apply wz1|apply wz2|apply wz3|apply wz4|apply wz5|apply wz6 | simp -dsimp (maxSteps:=999999) (disch:=omega) only[go_sem,simprocAttr, *])
          refine wz7 (fun hb=>?_) (fun hb=>?_) <;> try simp -dsimp (maxSteps:=999999) (disch:=omega) only[go_sem,simprocAttr,decide_eq_true_eq,decide_eq_false_iff_not,Bool.not_eq_true,Bool.not_eq_false,Int.not_lt,Int.not_le] at hb
          repeat' (first | apply wz1|apply wz2|apply wz3|apply wz4|apply wz5|apply wz6 | simp -dsimp (maxSteps:=999999) (disch:=omega) only[go_sem,simprocAttr, *])
          refine wz7 (fun hb=>?_) (fun hb=>?_) <;> try simp -dsimp (maxSteps:=999999) (disch:=omega) only[go_sem,simprocAttr,decide_eq_true_eq,decide_eq_false_iff_not,Bool.not_eq_true,Bool.not_eq_false,Int.not_lt,Int.not_le] at hb
          repeat' (first | apply wz1|apply wz2|apply wz3|apply wz4|apply wz5|apply wz6 | simp -dsimp (maxSteps:=999999) (disch:=omega) only[go_sem,simprocAttr, *])
          refine wz7 (fun hb=>?_) (fun hb=>?_) <;> try simp -dsimp (maxSteps:=999999) (disch:=omega) only[go_sem,simprocAttr,decide_eq_true_eq,decide_eq_false_iff_not,Bool.not_eq_true,Bool.not_eq_false,Int.not_lt,Int.not_le] at hb
          repeat' (first | apply wz1|apply wz2|apply wz3|apply wz4|apply wz5|apply wz6 | simp -dsimp (maxSteps:=999999) (disch:=omega) only[go_sem,simprocAttr, *])
          refine wpB_loop (fun e Hx=>∃ (j : Nat) (L : List Bool),j ≤ w.length + 1 ∧ L.length = w.length + 1 ∧ L.take j = fl.take j ∧ St H Hx m q (rxD (.mk 2 s l)) fl ∧ hget Hx (m + 1) = .arr (bsD L) ∧ e 1 = isD w ∧ e 2 = .vec q 0 (w.length + 1) ∧ e 3 = .ptr m 0 0 ∧ e 7 = .vec (m + 1) 0 (w.length + 1) ∧ e 10 = .int .i64 j) (fun e H=>w.length + 1 - natOf (e 10)) ?_ ?_
          · exact ⟨0,List.replicate (w.length + 1) false,by omega,by simp,rfl,hst,hout,by simp -dsimp (maxSteps:=999999) (disch:=omega) only[go_sem,simprocAttr, *,isD],gs,gs,gs,rfl⟩
          · clear hst hout
            rintro e Hx ⟨j,L,hj,hL,htk,hst,hout,e1,e2,e3,e7,e10⟩ R2 hR2
            have hv1:=vs_bools hout (by omega)
            have hv2:=vs_bools hst.fr (by omega)
            have hfr:=hst.fr
            repeat' (first | apply wz1|apply wz2|apply wz3|apply wz4|apply wz5|apply wz6 | simp -dsimp (maxSteps:=999999) (disch:=omega) only[go_sem,simprocAttr, *])
            refine wz7 (fun hb2=>?_) (fun hb2=>?_) <;> try simp -dsimp (maxSteps:=999999) (disch:=omega) only[go_sem,simprocAttr,decide_eq_true_eq,decide_eq_false_iff_not,Bool.not_eq_true,Bool.not_eq_false,Int.not_lt,Int.not_le] at hb2
            · have hlt : j < w.length + 1:=by omega
              have hx:=bs_at (l:=fl) (i:=j) (by omega)
              have hy:=bs_at (l:=L) (i:=j) (by omega)
              repeat' (first | apply wz1|apply wz2|apply wz3|apply wz4|apply wz5|apply wz6 | simp -dsimp (maxSteps:=999999) (disch:=omega) only[go_sem,simprocAttr, *])
              refine hR2 _ _ ⟨j + 1,L.set j fl[j],by omega,by simp [hL],take_set (by omega) htk (List.getElem?_eq_getElem (by omega)),?_,?_,gs,gs,gs,gs,gs⟩ ?_
              · exact hst.set (by omega)
              · rw [bs_set];exact hget_set_eq (lt_of_hget hout)
              · simp -dsimp (maxSteps:=999999) (disch:=omega) only[go_sem,simprocAttr, *,natOf_int]
            · rw [List.take_of_length_le (by omega),List.take_of_length_le (by omega)] at htk
              subst htk
              clear hR2 hv1 hv2 hfr hb2
              have hrx:=hst.rx
              repeat' (first | apply wz1|apply wz2|apply wz3|apply wz4|apply wz5|apply wz6 | simp -dsimp (maxSteps:=999999) (disch:=omega) only[go_sem,simprocAttr, *])
              refine wpB_loop (fun e Hx=>∃ (j p : Nat) (M : List Bool),j ≤ l.length ∧ M.length = w.length + 1 ∧ St H Hx m q (rxD (.mk 2 s l)) L ∧ m ≤ p ∧ hget Hx p = .arr (bsD M) ∧ e 1 = isD w ∧ e 3 = .ptr m 0 0 ∧ e 7 = .vec p 0 (w.length + 1) ∧ e 11 = .int .i64 j ∧ endsCat w l L = endsCat w (l.drop j) M) (fun e H=>l.length - natOf (e 11)) ?_ ?_
              · exact ⟨0,m + 1,L,by omega,hL,hst,by omega,hout,gs,gs,gs,rfl,by simp⟩
              · clear hst hout hrx hj
                rintro e Hx ⟨j,p,M,hj,hM,hst,hp,hout,e1,e3,e7,e11,ha⟩ R2 hR2
                have hrx:=hst.rx
                repeat' (first | apply wz1|apply wz2|apply wz3|apply wz4|apply wz5|apply wz6 | simp -dsimp (maxSteps:=999999) (disch:=omega) only[go_sem,simprocAttr, *])
                refine wz7 (fun hb2=>?_) (fun hb2=>?_) <;> try simp -dsimp (maxSteps:=999999) (disch:=omega) only[go_sem,simprocAttr,decide_eq_true_eq,decide_eq_false_iff_not,Bool.not_eq_true,Bool.not_eq_false,Int.not_lt,Int.not_le] at hb2
                · rw [List.drop_eq_getElem_cons hb2] at ha
                  simp only [endsCat] at ha
                  have hsj : shapesR l[j] = true:=hsk _ (List.getElem_mem hb2)
                  repeat' (first | apply wz1|apply wz2|apply wz3|apply wz4|apply wz5|apply wz6 | simp -dsimp (maxSteps:=999999) (disch:=omega) only[go_sem,simprocAttr, *])
                  refine evB_state bo41 rfl rfl (ih l[j] (okL_get hok _ (List.getElem_mem hb2)) (hkid _ (List.getElem_mem hb2)) hsj M hM Hx p hout) ?_ (fun _ _ h=>h.elim)
                  rintro _ Hy ⟨hsame,p',hp',rfl,hout'⟩
                  have hlx:=lt_of_hget hst.rx
                  simp -dsimp (maxSteps:=999999) (disch:=omega) only[go_sem,simprocAttr, *]
                  repeat' (first | apply wz1|apply wz2|apply wz3|apply wz4|apply wz5|apply wz6 | simp -dsimp (maxSteps:=999999) (disch:=omega) only[go_sem,simprocAttr, *])
                  refine hR2 _ _ ⟨j + 1,p',_,by omega,ends_len w l[j] M hM,hst.call hsame,by omega,hout',gs,gs,gs,gs,ha⟩ ?_
                  simp -dsimp (maxSteps:=999999) (disch:=omega) only[go_sem,simprocAttr, *,natOf_int]
                · rw [List.drop_eq_nil_of_le (by omega)] at ha
                  simp only [endsCat] at ha
                  rw [ha] at hR
                  repeat' (first | apply wz1|apply wz2|apply wz3|apply wz4|apply wz5|apply wz6 | simp -dsimp (maxSteps:=999999) (disch:=omega) only[go_sem,simprocAttr, *])
                  exact hR _ _ ⟨p,hp,gs,hout,hst.same⟩
        by_cases h3 : k = 3
        · subst h3
          have he : endsR w (.mk 3 s l) fl = endsAlt w l fl (List.replicate (w.length + 1) false):=by simp [endsR]
          rw [he] at hR
          repeat' (first | apply wz1|apply wz2|apply wz3|apply wz4|apply wz5|apply wz6 | simp -dsimp (maxSteps:=999999) (disch:=omega) only[go_sem,simprocAttr, *])
          refine wz7 (fun hb=>?_) (fun hb=>?_) <;> try simp -dsimp (maxSteps:=999999) (disch:=omega) only[go_sem,simprocAttr,decide_eq_true_eq,decide_eq_false_iff_not,Bool.not_eq_true,Bool.not_eq_false,Int.not_lt,Int.not_le] at hb
          repeat' (first | apply wz1|apply wz2|apply wz3|apply wz4|apply wz5|apply wz6 | simp -dsimp (maxSteps:=999999) (disch:=omega) only[go_sem,simprocAttr, *])
          refine wz7 (fun hb=>?_) (fun hb=>?_) <;> try simp -dsimp (maxSteps:=999999) (disch:=omega) only[go_sem,simprocAttr,decide_eq_true_eq,decide_eq_false_iff_not,Bool.not_eq_true,Bool.not_eq_false,Int.not_lt,Int.not_le] at hb
          repeat' (first | apply wz1|apply wz2|apply wz3|apply wz4|apply wz5|apply wz6 | simp -dsimp (maxSteps:=999999) (disch:=omega) only[go_sem,simprocAttr, *])
          refine wz7 (fun hb=>?_) (fun hb=>?_) <;> try simp -dsimp (maxSteps:=999999) (disch:=omega) only[go_sem,simprocAttr,decide_eq_true_eq,decide_eq_false_iff_not,Bool.not_eq_true,Bool.not_eq_false,Int.not_lt,Int.not_le] at hb
          repeat' (first | apply wz1|apply wz2|apply wz3|apply wz4|apply wz5|apply wz6 | simp -dsimp (maxSteps:=999999) (disch:=omega) only[go_sem,simprocAttr, *])
          refine wz7 (fun hb=>?_) (fun hb=>?_) <;> try simp -dsimp (maxSteps:=999999) (disch:=omega) only[go_sem,simprocAttr,decide_eq_true_eq,decide_eq_false_iff_not,Bool.not_eq_true,Bool.not_eq_false,Int.not_lt,Int.not_le] at hb
          repeat' (first | apply wz1|apply wz2|apply wz3|apply wz4|apply wz5|apply wz6 | simp -dsimp (maxSteps:=999999) (disch:=omega) only[go_sem,simprocAttr, *])
          refine wpB_loop (fun e Hx=>∃ (j : Nat) (M : List Bool),j ≤ l.length ∧ M.length = w.length + 1 ∧ St H Hx m q (rxD (.mk 3 s l)) fl ∧ hget Hx (m + 1) = .arr (bsD M) ∧ e 1 = isD w ∧ e 2 = .vec q 0 (w.length + 1) ∧ e 3 = .ptr m 0 0 ∧ e 7 = .vec (m + 1) 0 (w.length + 1) ∧ e 12 = .int .i64 j ∧ endsAlt w l fl (List.replicate (w.length + 1) false) = endsAlt w (l.drop j) fl M) (fun e H=>l.length - natOf (e 12)) ?_ ?_
          · exact ⟨0,List.replicate (w.length + 1) false,by omega,by simp,hst,hout,by simp -dsimp (maxSteps:=999999) (disch:=omega) only[go_sem,simprocAttr, *,isD],gs,gs,gs,rfl,by simp⟩
          · clear hst hout hrx
            rintro e Hx ⟨j,M,hj,hM,hst,hout,e1,e2,e3,e7,e12,ha⟩ R2 hR2
            have hrx:=hst.rx
            repeat' (first | apply wz1|apply wz2|apply wz3|apply wz4|apply wz5|apply wz6 | simp -dsimp (maxSteps:=999999) (disch:=omega) only[go_sem,simprocAttr, *])
            refine wz7 (fun hb2=>?_) (fun hb2=>?_) <;> try simp -dsimp (maxSteps:=999999) (disch:=omega) only[go_sem,simprocAttr,decide_eq_true_eq,decide_eq_false_iff_not,Bool.not_eq_true,Bool.not_eq_false,Int.not_lt,Int.not_le] at hb2
            · rw [List.drop_eq_getElem_cons hb2] at ha
              simp only [endsAlt] at ha
              have hsj : shapesR l[j] = true:=hsk _ (List.getElem_mem hb2)
              repeat' (first | apply wz1|apply wz2|apply wz3|apply wz4|apply wz5|apply wz6 | simp -dsimp (maxSteps:=999999) (disch:=omega) only[go_sem,simprocAttr, *])
              refine evB_state bo41 rfl rfl (ih l[j] (okL_get hok _ (List.getElem_mem hb2)) (hkid _ (List.getElem_mem hb2)) hsj fl hfl Hx q hst.fr) ?_ (fun _ _ h=>h.elim)
              rintro _ Hy ⟨hsame,p',hp',rfl,hX⟩
              have hXl:=ends_len w l[j] fl hfl
              generalize endsR w l[j] fl = X at *
              have hlx:=lt_of_hget hout
              have hst2:=hst.call hsame
              have hout2 : hget Hy (m + 1) = .arr (bsD M):=by rw [hsame.2 _ hlx];exact hout
              clear hst hout hrx
              simp -dsimp (maxSteps:=999999) (disch:=omega) only[go_sem,simprocAttr, *]
              repeat' (first | apply wz1|apply wz2|apply wz3|apply wz4|apply wz5|apply wz6 | simp -dsimp (maxSteps:=999999) (disch:=omega) only[go_sem,simprocAttr, *])
              refine wpB_loop (fun e Hx=>∃ (i : Nat),i ≤ w.length + 1 ∧ St H Hx m q (rxD (.mk 3 s l)) fl ∧ hget Hx (m + 1) = .arr (bsD (orL M X i)) ∧ hget Hx p' = .arr (bsD X) ∧ e 1 = isD w ∧ e 2 = .vec q 0 (w.length + 1) ∧ e 3 = .ptr m 0 0 ∧ e 7 = .vec (m + 1) 0 (w.length + 1) ∧ e 12 = .int .i64 j ∧ e 13 = .vec p' 0 (w.length + 1) ∧ e 14 = .int .i64 i) (fun e H=>w.length + 1 - natOf (e 14)) ?_ ?_
              · exact ⟨0,by omega,hst2,by rw [orL_zero];exact hout2,hX,gs,gs,gs,gs,gs,gs,rfl⟩
              · clear hst2 hout2 hX
                rintro e Hz ⟨i,hi,hst,hout,hX,e1,e2,e3,e7,e12,e13,e14⟩ R3 hR3
                have hOl:=orL_len hM hXl hi
                have hv1:=vs_bools hout (by omega)
                have hv2:=vs_bools hX (by omega)
                repeat' (first | apply wz1|apply wz2|apply wz3|apply wz4|apply wz5|apply wz6 | simp -dsimp (maxSteps:=999999) (disch:=omega) only[go_sem,simprocAttr, *])
                refine wz7 (fun hb3=>?_) (fun hb3=>?_) <;> try simp -dsimp (maxSteps:=999999) (disch:=omega) only[go_sem,simprocAttr,decide_eq_true_eq,decide_eq_false_iff_not,Bool.not_eq_true,Bool.not_eq_false,Int.not_lt,Int.not_le] at hb3
                · have hy:=bs_at (l:=X) (i:=i) (by omega)
                  have hz : (bsD (orL M X i))[i]? = some (.bool M[i]):=by simp [bsD,orL_at hM hXl (show i < w.length + 1 by omega)]
                  have hnext:=orL_next hM hXl (show i < w.length + 1 by omega)
                  have hne : m + 1 ≠ p':=by omega
                  cases hMi : M[i] with
                  | true=>
                    rw [hMi] at hz hnext
                    rw [Bool.true_or] at hnext
                    repeat' (first | apply wz1|apply wz2|apply wz3|apply wz4|apply wz5|apply wz6 | simp -dsimp (maxSteps:=999999) (disch:=omega) only[go_sem,simprocAttr, *])
                    refine hR3 _ _ ⟨i + 1,by omega,hst.set (by omega),by rw [hnext,← bs_set];exact hget_set_eq (lt_of_hget hout),by rw [hget_set_ne hne];exact hX,gs,gs,gs,gs,gs,gs,gs⟩ ?_
                    simp -dsimp (maxSteps:=999999) (disch:=omega) only[go_sem,simprocAttr, *,natOf_int]
                  | false=>
                    rw [hMi] at hz hnext
                    rw [Bool.false_or] at hnext
                    repeat' (first | apply wz1|apply wz2|apply wz3|apply wz4|apply wz5|apply wz6 | simp -dsimp (maxSteps:=999999) (disch:=omega) only[go_sem,simprocAttr, *])
                    refine hR3 _ _ ⟨i + 1,by omega,hst.set (by omega),by rw [hnext,← bs_set];exact hget_set_eq (lt_of_hget hout),by rw [hget_set_ne hne];exact hX,gs,gs,gs,gs,gs,gs,gs⟩ ?_
                    simp -dsimp (maxSteps:=999999) (disch:=omega) only[go_sem,simprocAttr, *,natOf_int]
                · have hii : i = w.length + 1:=by omega
                  subst hii
                  rw [orL_end hM hXl] at hout
                  repeat' (first | apply wz1|apply wz2|apply wz3|apply wz4|apply wz5|apply wz6 | simp -dsimp (maxSteps:=999999) (disch:=omega) only[go_sem,simprocAttr, *])
                  refine hR2 _ _ ⟨j + 1,_,by omega,orB_len hM hXl,hst,hout,gs,gs,gs,gs,gs,ha⟩ ?_
                  simp -dsimp (maxSteps:=999999) (disch:=omega) only[go_sem,simprocAttr, *,natOf_int]
            · rw [List.drop_eq_nil_of_le (by omega)] at ha
              simp only [endsAlt] at ha
              rw [ha] at hR
              repeat' (first | apply wz1|apply wz2|apply wz3|apply wz4|apply wz5|apply wz6 | simp -dsimp (maxSteps:=999999) (disch:=omega) only[go_sem,simprocAttr, *])
              exact hR _ _ ⟨m + 1,by omega,gs,hout,hst.same⟩
        by_cases hK : k = 4
        · subst hK
          obtain ⟨kid,rfl⟩ : ∃ kid,l = [kid]:=by
            simp only [shapesR,Bool.and_eq_true] at hs
            have:=hs.1
            simp [shape1] at this
            exact List.length_eq_one_iff.1 this.1
          have he : endsR w (.mk 4 s [kid]) fl = roundsB (endsR w kid) false (w.length + 1) fl:=by simp [endsR,endsOne]
          rw [he] at hR
          generalize hG : roundsB (endsR w kid) false (w.length + 1) fl = G at hR
          have hsj : shapesR kid = true:=hsk _ (by simp)
          have hkd:=hkid kid (by simp)
          have hok1:=okL_get hok kid (by simp)
          have hdR:=fun x (hx : x.length = w.length + 1)=>ends_len w kid x hx
          repeat' (first | apply wz1|apply wz2|apply wz3|apply wz4|apply wz5|apply wz6 | simp -dsimp (maxSteps:=999999) (disch:=omega) only[go_sem,simprocAttr, *])
          refine wz7 (fun hb=>?_) (fun hb=>?_) <;> try simp -dsimp (maxSteps:=999999) (disch:=omega) only[go_sem,simprocAttr,decide_eq_true_eq,decide_eq_false_iff_not,Bool.not_eq_true,Bool.not_eq_false,Int.not_lt,Int.not_le] at hb
          repeat' (first | apply wz1|apply wz2|apply wz3|apply wz4|apply wz5|apply wz6 | simp -dsimp (maxSteps:=999999) (disch:=omega) only[go_sem,simprocAttr, *])
          refine wz7 (fun hb=>?_) (fun hb=>?_) <;> try simp -dsimp (maxSteps:=999999) (disch:=omega) only[go_sem,simprocAttr,decide_eq_true_eq,decide_eq_false_iff_not,Bool.not_eq_true,Bool.not_eq_false,Int.not_lt,Int.not_le] at hb
          repeat' (first | apply wz1|apply wz2|apply wz3|apply wz4|apply wz5|apply wz6 | simp -dsimp (maxSteps:=999999) (disch:=omega) only[go_sem,simprocAttr, *])
          refine wz7 (fun hb=>?_) (fun hb=>?_) <;> try simp -dsimp (maxSteps:=999999) (disch:=omega) only[go_sem,simprocAttr,decide_eq_true_eq,decide_eq_false_iff_not,Bool.not_eq_true,Bool.not_eq_false,Int.not_lt,Int.not_le] at hb
          repeat' (first | apply wz1|apply wz2|apply wz3|apply wz4|apply wz5|apply wz6 | simp -dsimp (maxSteps:=999999) (disch:=omega) only[go_sem,simprocAttr, *])
          refine wz7 (fun hb=>?_) (fun hb=>?_) <;> try simp -dsimp (maxSteps:=999999) (disch:=omega) only[go_sem,simprocAttr,decide_eq_true_eq,decide_eq_false_iff_not,Bool.not_eq_true,Bool.not_eq_false,Int.not_lt,Int.not_le] at hb
          repeat' (first | apply wz1|apply wz2|apply wz3|apply wz4|apply wz5|apply wz6 | simp -dsimp (maxSteps:=999999) (disch:=omega) only[go_sem,simprocAttr, *])
          refine wz7 (fun hb=>?_) (fun hb=>?_) <;> try simp -dsimp (maxSteps:=999999) (disch:=omega) only[go_sem,simprocAttr,decide_eq_true_eq,decide_eq_false_iff_not,Bool.not_eq_true,Bool.not_eq_false,Int.not_lt,Int.not_le] at hb
          repeat' (first | apply wz1|apply wz2|apply wz3|apply wz4|apply wz5|apply wz6 | simp -dsimp (maxSteps:=999999) (disch:=omega) only[go_sem,simprocAttr, *])
          refine wz7 (fun hb=>?_) (fun hb=>?_) <;> try simp -dsimp (maxSteps:=999999) (disch:=omega) only[go_sem,simprocAttr,decide_eq_true_eq,decide_eq_false_iff_not,Bool.not_eq_true,Bool.not_eq_false,Int.not_lt,Int.not_le] at hb
          repeat' (first | apply wz1|apply wz2|apply wz3|apply wz4|apply wz5|apply wz6 | simp -dsimp (maxSteps:=999999) (disch:=omega) only[go_sem,simprocAttr, *])
          refine wpB_loop (fun e Hx=>∃ (j : Nat) (L : List Bool),j ≤ w.length + 1 ∧ L.length = w.length + 1 ∧ L.take j = fl.take j ∧ St H Hx m q (rxD (.mk 4 s [kid])) fl ∧ hget Hx (m + 1) = .arr (bsD L) ∧ e 1 = isD w ∧ e 2 = .vec q 0 (w.length + 1) ∧ e 3 = .ptr m 0 0 ∧ e 7 = .vec (m + 1) 0 (w.length + 1) ∧ e 15 = .int .i64 j) (fun e H=>w.length + 1 - natOf (e 15)) ?_ ?_
          · exact ⟨0,List.replicate (w.length + 1) false,by omega,by simp,rfl,hst,hout,by simp -dsimp (maxSteps:=999999) (disch:=omega) only[go_sem,simprocAttr, *,isD],gs,gs,gs,rfl⟩
          · clear hst hout
            rintro e Hx ⟨j,L,hj,hL,htk,hst,hout,e1,e2,e3,e7,e15⟩ R2 hR2
            have hv1:=vs_bools hout (by omega)
            have hv2:=vs_bools hst.fr (by omega)
            have hfr:=hst.fr
            repeat' (first | apply wz1|apply wz2|apply wz3|apply wz4|apply wz5|apply wz6 | simp -dsimp (maxSteps:=999999) (disch:=omega) only[go_sem,simprocAttr, *])
            refine wz7 (fun hb2=>?_) (fun hb2=>?_) <;> try simp -dsimp (maxSteps:=999999) (disch:=omega) only[go_sem,simprocAttr,decide_eq_true_eq,decide_eq_false_iff_not,Bool.not_eq_true,Bool.not_eq_false,Int.not_lt,Int.not_le] at hb2
            · have hlt : j < w.length + 1:=by omega
              have hx:=bs_at (l:=fl) (i:=j) (by omega)
              have hy:=bs_at (l:=L) (i:=j) (by omega)
              repeat' (first | apply wz1|apply wz2|apply wz3|apply wz4|apply wz5|apply wz6 | simp -dsimp (maxSteps:=999999) (disch:=omega) only[go_sem,simprocAttr, *])
              refine hR2 _ _ ⟨j + 1,L.set j fl[j],by omega,by simp [hL],take_set (by omega) htk (List.getElem?_eq_getElem (by omega)),?_,?_,gs,gs,gs,gs,gs⟩ ?_
              · exact hst.set (by omega)
              · rw [bs_set];exact hget_set_eq (lt_of_hget hout)
              · simp -dsimp (maxSteps:=999999) (disch:=omega) only[go_sem,simprocAttr, *,natOf_int]
            · rw [List.take_of_length_le (by omega),List.take_of_length_le (by omega)] at htk
              subst htk
              clear hR2 hv1 hv2 hfr hb2
              have hrx:=hst.rx
              repeat' (first | apply wz1|apply wz2|apply wz3|apply wz4|apply wz5|apply wz6 | simp -dsimp (maxSteps:=999999) (disch:=omega) only[go_sem,simprocAttr, *])
              refine wpB_loop (fun e Hx=>∃ (t : Nat) (M : List Bool),t ≤ w.length + 1 ∧ M.length = w.length + 1 ∧ St H Hx m q (rxD (.mk 4 s [kid])) L ∧ hget Hx (m + 1) = .arr (bsD M) ∧ e 1 = isD w ∧ e 3 = .ptr m 0 0 ∧ e 7 = .vec (m + 1) 0 (w.length + 1) ∧ e 16 = .int .i64 t ∧ G = roundsB (endsR w kid) false (w.length + 1 - t) M) (fun e H=>w.length + 1 - natOf (e 16)) ?_ ?_
              · exact ⟨0,L,by omega,hL,hst,hout,gs,gs,gs,rfl,hG.symm⟩
              · clear hst hout hrx hj
                rintro e Hx ⟨t,M,ht,hM,hst,hout,e1,e3,e7,e16,ha⟩ R2 hR2
                have hrx:=hst.rx
                repeat' (first | apply wz1|apply wz2|apply wz3|apply wz4|apply wz5|apply wz6 | simp -dsimp (maxSteps:=999999) (disch:=omega) only[go_sem,simprocAttr, *])
                refine wz7 (fun hb2=>?_) (fun hb2=>?_) <;> try simp -dsimp (maxSteps:=999999) (disch:=omega) only[go_sem,simprocAttr,decide_eq_true_eq,decide_eq_false_iff_not,Bool.not_eq_true,Bool.not_eq_false,Int.not_lt,Int.not_le] at hb2
                · rw [show w.length + 1 - t = (w.length - t) + 1 by omega] at ha
                  simp only [roundsB] at ha
                  repeat' (first | apply wz1|apply wz2|apply wz3|apply wz4|apply wz5|apply wz6 | simp -dsimp (maxSteps:=999999) (disch:=omega) only[go_sem,simprocAttr, *])
                  refine evB_state bo41 rfl rfl (ih kid hok1 hkd hsj M hM Hx (m + 1) hout) ?_ (fun _ _ h=>h.elim)
                  rintro _ Hy ⟨hsame,p',hp',rfl,hX⟩
                  have hXl:=ends_len w kid M hM
                  generalize endsR w kid M = X at ha hX hXl
                  have hlx:=lt_of_hget hout
                  have hst2:=hst.call hsame
                  have hout2 : hget Hy (m + 1) = .arr (bsD M):=by rw [hsame.2 _ hlx];exact hout
                  clear hst hout hrx
                  simp -dsimp (maxSteps:=999999) (disch:=omega) only[go_sem,simprocAttr, *]
                  repeat' (first | apply wz1|apply wz2|apply wz3|apply wz4|apply wz5|apply wz6 | simp -dsimp (maxSteps:=999999) (disch:=omega) only[go_sem,simprocAttr, *])
                  refine wpB_loop (fun e Hx=>∃ (i : Nat),i ≤ w.length + 1 ∧ St H Hx m q (rxD (.mk 4 s [kid])) L ∧ hget Hx (m + 1) = .arr (bsD (orL M X i)) ∧ hget Hx p' = .arr (bsD X) ∧ e 1 = isD w ∧ e 3 = .ptr m 0 0 ∧ e 7 = .vec (m + 1) 0 (w.length + 1) ∧ e 16 = .int .i64 t ∧ e 17 = .vec p' 0 (w.length + 1) ∧ e 18 = .bool (moreL M X i) ∧ e 19 = .int .i64 i) (fun e H=>w.length + 1 - natOf (e 19)) ?_ ?_
                  · exact ⟨0,by omega,hst2,by rw [orL_zero];exact hout2,hX,gs,gs,gs,gs,gs,by simp -dsimp (maxSteps:=999999) (disch:=omega) only[go_sem,simprocAttr, *];try rfl,rfl⟩
                  · clear hst2 hout2 hX
                    rintro e Hz ⟨i,hi,hst,hout,hX,e1,e3,e7,e16,e17,e18,e19⟩ R3 hR3
                    have hOl:=orL_len hM hXl hi
                    have hv1:=vs_bools hout (by omega)
                    have hv2:=vs_bools hX (by omega)
                    repeat' (first | apply wz1|apply wz2|apply wz3|apply wz4|apply wz5|apply wz6 | simp -dsimp (maxSteps:=999999) (disch:=omega) only[go_sem,simprocAttr, *])
                    refine wz7 (fun hb3=>?_) (fun hb3=>?_) <;> try simp -dsimp (maxSteps:=999999) (disch:=omega) only[go_sem,simprocAttr,decide_eq_true_eq,decide_eq_false_iff_not,Bool.not_eq_true,Bool.not_eq_false,Int.not_lt,Int.not_le] at hb3
                    · have hy:=bs_at (l:=X) (i:=i) (by omega)
                      have hz : (bsD (orL M X i))[i]? = some (.bool M[i]):=by simp [bsD,orL_at hM hXl (show i < w.length + 1 by omega)]
                      have hnext:=orL_next hM hXl (show i < w.length + 1 by omega)
                      have hmore : moreL M X (i + 1) = (moreL M X i || (X[i] && !M[i])):=by simp [moreL,List.getD,show i < X.length by omega,show i < M.length by omega]
                      have hne : m + 1 ≠ p':=by omega
                      generalize moreL M X i = c at *
                      cases c <;> cases hXi : X[i] <;> cases hMi : M[i] <;>
                      (rw [hXi] at hy hnext hmore
                       rw [hMi] at hz hnext hmore
                       simp only [Bool.true_or,Bool.false_or,Bool.or_true,Bool.or_false,Bool.true_and,Bool.false_and,Bool.and_true,Bool.and_false,Bool.not_true,Bool.not_false] at hnext hmore
                       repeat' (first | apply wz1|apply wz2|apply wz3|apply wz4|apply wz5|apply wz6 | simp -dsimp (maxSteps:=999999) (disch:=omega) only[go_sem,simprocAttr, *])
                       refine hR3 _ _ ⟨i + 1,by omega,hst.set (by omega),by rw [hnext,← bs_set];exact hget_set_eq (lt_of_hget hout),by rw [hget_set_ne hne];exact hX,gs,gs,gs,gs,gs,gs,gs⟩ ?_
                       simp -dsimp (maxSteps:=999999) (disch:=omega) only[go_sem,simprocAttr, *,natOf_int])
                    · have hii : i = w.length + 1:=by omega
                      subst hii
                      rw [orL_end hM hXl] at hout
                      have hrx:=hst.rx
                      cases hmr : moreL M X (w.length + 1) with
                      | true=>
                        have hne : orB M X ≠ M:=fun h=>by rw [(more_same hM hXl).2 h] at hmr;cases hmr
                        rw [hmr] at e18
                        rw [if_neg (fun h=>h.elim (fun h=>by cases h) hne)] at ha
                        repeat' (first | apply wz1|apply wz2|apply wz3|apply wz4|apply wz5|apply wz6 | simp -dsimp (maxSteps:=999999) (disch:=omega) only[go_sem,simprocAttr, *])
                        refine wz7 (fun hb4=>?_) (fun hb4=>?_) <;> try simp -dsimp (maxSteps:=999999) (disch:=omega) only[go_sem,simprocAttr,decide_eq_true_eq,decide_eq_false_iff_not,Bool.not_eq_true,Bool.not_eq_false,Int.not_lt,Int.not_le] at hb4
                        repeat' (first | apply wz1|apply wz2|apply wz3|apply wz4|apply wz5|apply wz6 | simp -dsimp (maxSteps:=999999) (disch:=omega) only[go_sem,simprocAttr, *])
                        refine hR2 _ _ ⟨t + 1,orB M X,by omega,orB_len hM hXl,hst,hout,gs,gs,gs,gs,by rw [show w.length + 1 - (t + 1) = w.length - t by omega];exact ha⟩ ?_
                        simp -dsimp (maxSteps:=999999) (disch:=omega) only[go_sem,simprocAttr, *,natOf_int]
                      | false=>
                        have heq : orB M X = M:=(more_same hM hXl).1 hmr
                        rw [hmr] at e18
                        rw [if_pos (.inr heq)] at ha
                        rw [ha] at hR
                        repeat' (first | apply wz1|apply wz2|apply wz3|apply wz4|apply wz5|apply wz6 | simp -dsimp (maxSteps:=999999) (disch:=omega) only[go_sem,simprocAttr, *])
                        refine wz7 (fun hb4=>?_) (fun hb4=>?_) <;> try simp -dsimp (maxSteps:=999999) (disch:=omega) only[go_sem,simprocAttr,decide_eq_true_eq,decide_eq_false_iff_not,Bool.not_eq_true,Bool.not_eq_false,Int.not_lt,Int.not_le] at hb4
                        repeat' (first | apply wz1|apply wz2|apply wz3|apply wz4|apply wz5|apply wz6 | simp -dsimp (maxSteps:=999999) (disch:=omega) only[go_sem,simprocAttr, *])
                        exact hR _ _ ⟨m + 1,by omega,gs,hout,hst.same⟩
                · rw [show w.length + 1 - t = 0 by omega] at ha
                  simp only [roundsB] at ha
                  rw [ha] at hR
                  repeat' (first | apply wz1|apply wz2|apply wz3|apply wz4|apply wz5|apply wz6 | simp -dsimp (maxSteps:=999999) (disch:=omega) only[go_sem,simprocAttr, *])
                  exact hR _ _ ⟨m + 1,by omega,gs,hout,hst.same⟩
        by_cases hL : k = 5
        · subst hL
          obtain ⟨kid,rfl⟩ : ∃ kid,l = [kid]:=by
            simp only [shapesR,Bool.and_eq_true] at hs
            have:=hs.1
            simp [shape1] at this
            exact List.length_eq_one_iff.1 this.1
          have he : endsR w (.mk 5 s [kid]) fl = roundsB (endsR w kid) true (w.length + 1) fl:=by simp [endsR,endsOne]
          rw [he] at hR
          generalize hG : roundsB (endsR w kid) true (w.length + 1) fl = G at hR
          have hsj : shapesR kid = true:=hsk _ (by simp)
          have hkd:=hkid kid (by simp)
          have hok1:=okL_get hok kid (by simp)
          have hdR:=fun x (hx : x.length = w.length + 1)=>ends_len w kid x hx
          repeat' (first | apply wz1|apply wz2|apply wz3|apply wz4|apply wz5|apply wz6 | simp -dsimp (maxSteps:=999999) (disch:=omega) only[go_sem,simprocAttr, *])
          refine wz7 (fun hb=>?_) (fun hb=>?_) <;> try simp -dsimp (maxSteps:=999999) (disch:=omega) only[go_sem,simprocAttr,decide_eq_true_eq,decide_eq_false_iff_not,Bool.not_eq_true,Bool.not_eq_false,Int.not_lt,Int.not_le] at hb
          repeat' (first | apply wz1|apply wz2|apply wz3|apply wz4|apply wz5|apply wz6 | simp -dsimp (maxSteps:=999999) (disch:=omega) only[go_sem,simprocAttr, *])
          refine wz7 (fun hb=>?_) (fun hb=>?_) <;> try simp -dsimp (maxSteps:=999999) (disch:=omega) only[go_sem,simprocAttr,decide_eq_true_eq,decide_eq_false_iff_not,Bool.not_eq_true,Bool.not_eq_false,Int.not_lt,Int.not_le] at hb
          repeat' (first | apply wz1|apply wz2|apply wz3|apply wz4|apply wz5|apply wz6 | simp -dsimp (maxSteps:=999999) (disch:=omega) only[go_sem,simprocAttr, *])
          refine wz7 (fun hb=>?_) (fun hb=>?_) <;> try simp -dsimp (maxSteps:=999999) (disch:=omega) only[go_sem,simprocAttr,decide_eq_true_eq,decide_eq_false_iff_not,Bool.not_eq_true,Bool.not_eq_false,Int.not_lt,Int.not_le] at hb
          repeat' (first | apply wz1|apply wz2|apply wz3|apply wz4|apply wz5|apply wz6 | simp -dsimp (maxSteps:=999999) (disch:=omega) only[go_sem,simprocAttr, *])
          refine wz7 (fun hb=>?_) (fun hb=>?_) <;> try simp -dsimp (maxSteps:=999999) (disch:=omega) only[go_sem,simprocAttr,decide_eq_true_eq,decide_eq_false_iff_not,Bool.not_eq_true,Bool.not_eq_false,Int.not_lt,Int.not_le] at hb
          repeat' (first | apply wz1|apply wz2|apply wz3|apply wz4|apply wz5|apply wz6 | simp -dsimp (maxSteps:=999999) (disch:=omega) only[go_sem,simprocAttr, *])
          refine wz7 (fun hb=>?_) (fun hb=>?_) <;> try simp -dsimp (maxSteps:=999999) (disch:=omega) only[go_sem,simprocAttr,decide_eq_true_eq,decide_eq_false_iff_not,Bool.not_eq_true,Bool.not_eq_false,Int.not_lt,Int.not_le] at hb
          repeat' (first | apply wz1|apply wz2|apply wz3|apply wz4|apply wz5|apply wz6 | simp -dsimp (maxSteps:=999999) (disch:=omega) only[go_sem,simprocAttr, *])
          refine wz7 (fun hb=>?_) (fun hb=>?_) <;> try simp -dsimp (maxSteps:=999999) (disch:=omega) only[go_sem,simprocAttr,decide_eq_true_eq,decide_eq_false_iff_not,Bool.not_eq_true,Bool.not_eq_false,Int.not_lt,Int.not_le] at hb
          repeat' (first | apply wz1|apply wz2|apply wz3|apply wz4|apply wz5|apply wz6 | simp -dsimp (maxSteps:=999999) (disch:=omega) only[go_sem,simprocAttr, *])
          refine wpB_loop (fun e Hx=>∃ (j : Nat) (L : List Bool),j ≤ w.length + 1 ∧ L.length = w.length + 1 ∧ L.take j = fl.take j ∧ St H Hx m q (rxD (.mk 5 s [kid])) fl ∧ hget Hx (m + 1) = .arr (bsD L) ∧ e 1 = isD w ∧ e 2 = .vec q 0 (w.length + 1) ∧ e 3 = .ptr m 0 0 ∧ e 7 = .vec (m + 1) 0 (w.length + 1) ∧ e 15 = .int .i64 j) (fun e H=>w.length + 1 - natOf (e 15)) ?_ ?_
          · exact ⟨0,List.replicate (w.length + 1) false,by omega,by simp,rfl,hst,hout,by simp -dsimp (maxSteps:=999999) (disch:=omega) only[go_sem,simprocAttr, *,isD],gs,gs,gs,rfl⟩
          · clear hst hout
            rintro e Hx ⟨j,L,hj,hL,htk,hst,hout,e1,e2,e3,e7,e15⟩ R2 hR2
            have hv1:=vs_bools hout (by omega)
            have hv2:=vs_bools hst.fr (by omega)
            have hfr:=hst.fr
            repeat' (first | apply wz1|apply wz2|apply wz3|apply wz4|apply wz5|apply wz6 | simp -dsimp (maxSteps:=999999) (disch:=omega) only[go_sem,simprocAttr, *])
            refine wz7 (fun hb2=>?_) (fun hb2=>?_) <;> try simp -dsimp (maxSteps:=999999) (disch:=omega) only[go_sem,simprocAttr,decide_eq_true_eq,decide_eq_false_iff_not,Bool.not_eq_true,Bool.not_eq_false,Int.not_lt,Int.not_le] at hb2
            · have hlt : j < w.length + 1:=by omega
              have hx:=bs_at (l:=fl) (i:=j) (by omega)
              have hy:=bs_at (l:=L) (i:=j) (by omega)
              repeat' (first | apply wz1|apply wz2|apply wz3|apply wz4|apply wz5|apply wz6 | simp -dsimp (maxSteps:=999999) (disch:=omega) only[go_sem,simprocAttr, *])
              refine hR2 _ _ ⟨j + 1,L.set j fl[j],by omega,by simp [hL],take_set (by omega) htk (List.getElem?_eq_getElem (by omega)),?_,?_,gs,gs,gs,gs,gs⟩ ?_
              · exact hst.set (by omega)
              · rw [bs_set];exact hget_set_eq (lt_of_hget hout)
              · simp -dsimp (maxSteps:=999999) (disch:=omega) only[go_sem,simprocAttr, *,natOf_int]
            · rw [List.take_of_length_le (by omega),List.take_of_length_le (by omega)] at htk
              subst htk
              clear hR2 hv1 hv2 hfr hb2
              have hrx:=hst.rx
              repeat' (first | apply wz1|apply wz2|apply wz3|apply wz4|apply wz5|apply wz6 | simp -dsimp (maxSteps:=999999) (disch:=omega) only[go_sem,simprocAttr, *])
              refine wpB_loop (fun e Hx=>∃ (t : Nat) (M : List Bool),t ≤ w.length + 1 ∧ M.length = w.length + 1 ∧ St H Hx m q (rxD (.mk 5 s [kid])) L ∧ hget Hx (m + 1) = .arr (bsD M) ∧ e 1 = isD w ∧ e 3 = .ptr m 0 0 ∧ e 7 = .vec (m + 1) 0 (w.length + 1) ∧ e 16 = .int .i64 t ∧ G = roundsB (endsR w kid) true (w.length + 1 - t) M) (fun e H=>w.length + 1 - natOf (e 16)) ?_ ?_
              · exact ⟨0,L,by omega,hL,hst,hout,gs,gs,gs,rfl,hG.symm⟩
              · clear hst hout hrx hj
                rintro e Hx ⟨t,M,ht,hM,hst,hout,e1,e3,e7,e16,ha⟩ R2 hR2
                have hrx:=hst.rx
                repeat' (first | apply wz1|apply wz2|apply wz3|apply wz4|apply wz5|apply wz6 | simp -dsimp (maxSteps:=999999) (disch:=omega) only[go_sem,simprocAttr, *])
                refine wz7 (fun hb2=>?_) (fun hb2=>?_) <;> try simp -dsimp (maxSteps:=999999) (disch:=omega) only[go_sem,simprocAttr,decide_eq_true_eq,decide_eq_false_iff_not,Bool.not_eq_true,Bool.not_eq_false,Int.not_lt,Int.not_le] at hb2
                · rw [show w.length + 1 - t = (w.length - t) + 1 by omega] at ha
                  simp only [roundsB] at ha
                  repeat' (first | apply wz1|apply wz2|apply wz3|apply wz4|apply wz5|apply wz6 | simp -dsimp (maxSteps:=999999) (disch:=omega) only[go_sem,simprocAttr, *])
                  refine evB_state bo41 rfl rfl (ih kid hok1 hkd hsj M hM Hx (m + 1) hout) ?_ (fun _ _ h=>h.elim)
                  rintro _ Hy ⟨hsame,p',hp',rfl,hX⟩
                  have hXl:=ends_len w kid M hM
                  generalize endsR w kid M = X at ha hX hXl
                  have hlx:=lt_of_hget hout
                  have hst2:=hst.call hsame
                  have hout2 : hget Hy (m + 1) = .arr (bsD M):=by rw [hsame.2 _ hlx];exact hout
                  clear hst hout hrx
                  simp -dsimp (maxSteps:=999999) (disch:=omega) only[go_sem,simprocAttr, *]
                  repeat' (first | apply wz1|apply wz2|apply wz3|apply wz4|apply wz5|apply wz6 | simp -dsimp (maxSteps:=999999) (disch:=omega) only[go_sem,simprocAttr, *])
                  refine wpB_loop (fun e Hx=>∃ (i : Nat),i ≤ w.length + 1 ∧ St H Hx m q (rxD (.mk 5 s [kid])) L ∧ hget Hx (m + 1) = .arr (bsD (orL M X i)) ∧ hget Hx p' = .arr (bsD X) ∧ e 1 = isD w ∧ e 3 = .ptr m 0 0 ∧ e 7 = .vec (m + 1) 0 (w.length + 1) ∧ e 16 = .int .i64 t ∧ e 17 = .vec p' 0 (w.length + 1) ∧ e 18 = .bool (moreL M X i) ∧ e 19 = .int .i64 i) (fun e H=>w.length + 1 - natOf (e 19)) ?_ ?_
                  · exact ⟨0,by omega,hst2,by rw [orL_zero];exact hout2,hX,gs,gs,gs,gs,gs,by simp -dsimp (maxSteps:=999999) (disch:=omega) only[go_sem,simprocAttr, *];try rfl,rfl⟩
                  · clear hst2 hout2 hX
                    rintro e Hz ⟨i,hi,hst,hout,hX,e1,e3,e7,e16,e17,e18,e19⟩ R3 hR3
                    have hOl:=orL_len hM hXl hi
                    have hv1:=vs_bools hout (by omega)
                    have hv2:=vs_bools hX (by omega)
                    repeat' (first | apply wz1|apply wz2|apply wz3|apply wz4|apply wz5|apply wz6 | simp -dsimp (maxSteps:=999999) (disch:=omega) only[go_sem,simprocAttr, *])
                    refine wz7 (fun hb3=>?_) (fun hb3=>?_) <;> try simp -dsimp (maxSteps:=999999) (disch:=omega) only[go_sem,simprocAttr,decide_eq_true_eq,decide_eq_false_iff_not,Bool.not_eq_true,Bool.not_eq_false,Int.not_lt,Int.not_le] at hb3
                    · have hy:=bs_at (l:=X) (i:=i) (by omega)
                      have hz : (bsD (orL M X i))[i]? = some (.bool M[i]):=by simp [bsD,orL_at hM hXl (show i < w.length + 1 by omega)]
                      have hnext:=orL_next hM hXl (show i < w.length + 1 by omega)
                      have hmore : moreL M X (i + 1) = (moreL M X i || (X[i] && !M[i])):=by simp [moreL,List.getD,show i < X.length by omega,show i < M.length by omega]
                      have hne : m + 1 ≠ p':=by omega
                      generalize moreL M X i = c at *
                      cases c <;> cases hXi : X[i] <;> cases hMi : M[i] <;>
                      (rw [hXi] at hy hnext hmore
                       rw [hMi] at hz hnext hmore
                       simp only [Bool.true_or,Bool.false_or,Bool.or_true,Bool.or_false,Bool.true_and,Bool.false_and,Bool.and_true,Bool.and_false,Bool.not_true,Bool.not_false] at hnext hmore
                       repeat' (first | apply wz1|apply wz2|apply wz3|apply wz4|apply wz5|apply wz6 | simp -dsimp (maxSteps:=999999) (disch:=omega) only[go_sem,simprocAttr, *])
                       refine hR3 _ _ ⟨i + 1,by omega,hst.set (by omega),by rw [hnext,← bs_set];exact hget_set_eq (lt_of_hget hout),by rw [hget_set_ne hne];exact hX,gs,gs,gs,gs,gs,gs,gs⟩ ?_
                       simp -dsimp (maxSteps:=999999) (disch:=omega) only[go_sem,simprocAttr, *,natOf_int])
                    · have hii : i = w.length + 1:=by omega
                      subst hii
                      rw [orL_end hM hXl] at hout
                      have hrx:=hst.rx
                      rw [if_pos (.inl trivial)] at ha
                      rw [ha] at hR
                      repeat' (first | apply wz1|apply wz2|apply wz3|apply wz4|apply wz5|apply wz6 | simp -dsimp (maxSteps:=999999) (disch:=omega) only[go_sem,simprocAttr, *])
                      refine wz7 (fun hb4=>?_) (fun hb4=>?_) <;> try simp -dsimp (maxSteps:=999999) (disch:=omega) only[go_sem,simprocAttr,decide_eq_true_eq,decide_eq_false_iff_not,Bool.not_eq_true,Bool.not_eq_false,Int.not_lt,Int.not_le] at hb4
                      repeat' (first | apply wz1|apply wz2|apply wz3|apply wz4|apply wz5|apply wz6 | simp -dsimp (maxSteps:=999999) (disch:=omega) only[go_sem,simprocAttr, *])
                      exact hR _ _ ⟨m + 1,by omega,gs,hout,hst.same⟩
                · rw [show w.length + 1 - t = 0 by omega] at ha
                  simp only [roundsB] at ha
                  rw [ha] at hR
                  repeat' (first | apply wz1|apply wz2|apply wz3|apply wz4|apply wz5|apply wz6 | simp -dsimp (maxSteps:=999999) (disch:=omega) only[go_sem,simprocAttr, *])
                  exact hR _ _ ⟨m + 1,by omega,gs,hout,hst.same⟩
        exfalso
        simp only [shapesR,Bool.and_eq_true] at hs
        have:=hs.1
        simp [shape1,h0,h1,h2,h3,hK,hL] at this
      · rintro e Hx ⟨p,hp,e7,hout,hs⟩
        repeat' (first | apply wz1|apply wz2|apply wz3|apply wz4|apply wz5|apply wz6 | simp -dsimp (maxSteps:=999999) (disch:=omega) only[go_sem,simprocAttr, *])
        exact ⟨by rw [hm];exact hs,p,by rw [hm];exact hp,rfl,hout⟩
end Go.Proofs.W
end
