/- Texts that stand behind this claim, one after the other. -/
import Derived.Test.YtcacifbfoifojaaM5
import Derived.Test.YtcacifbfoifojaaM7
import Derived.HandedShaped
import Derived.LaidLaws
/- Machines with free steps: the program's own walk. -/
section
set_option maxHeartbeats 4000000
set_option linter.unusedVariables false
set_option linter.unusedSimpArgs false
namespace Go.Proofs.W
open Go Vm Go.Proofs.Zs06

def inS (k : Nat) (l : List Int) (s : Nat) : Prop := s < k ∧ (s : Int) ∈ l
theorem Reach.sub {n : Nfa} {p p' : Nat → Prop} {x : Nat} (h : Reach n p x) (hp : ∀ s, p s → Reach n p' s) : Reach n p' x := by
  induction h with
  | base h => exact hp _ h
  | step _ h ih => exact .step ih h
theorem closed_ok (n : Nfa) (l : List Int) (hn : rightN n = true) (hfl : ∀ l ∈ n.free, l.length ≤ 1000000) (hl : l.length ≤ 1000000) : PureF Try.prog A 35 [nfaD n, isD l] (isD (listZ n.set.length (clo n (inS n.set.length l)))) := by
  have hgo := go_ok n hn hfl
  have hrr := right_row hn
  have hk := hrr.1
  have hk2 := hrr.2.1
  have hfree := fun i hi x hx => right_free hn (i := i) hi (x := x) hx
  have hceq := fun q => clo_eq hn (p := inS n.set.length l) (fun s h => h.1) (q := q)
  have hmk : ∀ H, makeSliceD Try.prog 42 (.int .i64 n.set.length) (.int .i64 n.set.length) H = some (.vec H.length 0 n.set.length, H ++ [.arr (tabD n.set.length fun _ => false)]) := fun H => mkBools hk (by omega)
  generalize hkk : n.set.length = k at *
  refine evF_inB (n := 28) (rs := [.tmp 4]) Try.func35 rfl rfl rfl rfl rfl rfl ?_
  repeat' (first | refine wpB_seq ?_ | refine wpB_regionL rfl ?_ | refine wpB_block ?_ | refine wpB_skip ?_ | refine wpB_exit ?_ | refine wpB_ret ?_ | simp (maxSteps := 1000000) (dsimp := false) (disch := omega) only [go_sem, simprocAttr, *, nfaD, u16D, isD] | ((first | refine stepsB_both (fun hh => ?_) (fun hh => ?_) | refine stepsXB_both (fun hh => ?_) (fun hh => ?_)) <;> (try simp (maxSteps := 1000000) (dsimp := false) (disch := omega) only [go_sem, simprocAttr, decide_eq_true_eq, decide_eq_false_iff_not, Bool.not_eq_true, Bool.not_eq_false, Bool.not_eq_true', Bool.not_eq_false', Int.not_lt, Int.not_le, bne_iff_ne, bne_eq_false_iff_eq, beq_iff_eq, beq_eq_false_iff_ne, ne_eq, Int.ofNat_inj, Int.natCast_inj] at hh) <;> (try (exfalso; omega))) | (refine wpB_cond (by simp (maxSteps := 1000000) (dsimp := false) (disch := omega) only [go_sem, simprocAttr, *, nfaD, u16D, isD]; exact rfl) (fun hh => ?_) (fun hh => ?_) <;> (try simp (maxSteps := 1000000) (dsimp := false) (disch := omega) only [go_sem, simprocAttr, decide_eq_true_eq, decide_eq_false_iff_not, Bool.not_eq_true, Bool.not_eq_false, Bool.not_eq_true', Bool.not_eq_false', Int.not_lt, Int.not_le, bne_iff_ne, bne_eq_false_iff_eq, beq_iff_eq, beq_eq_false_iff_ne, ne_eq, Int.ofNat_inj, Int.natCast_inj] at hh) <;> (try (exfalso; omega))))
  let I : Nat → Env → Heap → Prop := fun j e H => ∃ (q : Nat → Bool) (out : List Int) (d : D), DS n k q out d H ∧ OutOk k q out ∧ e 6 = .ptr 3 0 0 ∧ e 7 = .ptr 4 0 0 ∧ e 15 = isD l ∧ e 16 = .int .i64 l.length ∧ e 17 = .int .i64 j
    ∧ (∀ x, x < k → q x = true → Reach n (inS k l) x) ∧ (∀ x, x < k → q x = true → ∀ y : Nat, (y : Int) ∈ n.free.getD x [] → q y = true) ∧ (∀ y : Nat, y < k → (y : Int) ∈ l.take j → q y = true)
  refine wpB_loop (fun e H => ∃ j, j ≤ l.length ∧ I j e H) (fun e H => l.length - natOf (e 17)) ?_ ?_
  · refine ⟨0, by omega, fun _ => false, [], .sl true [], ⟨rfl, rfl, rfl, rfl, VecAt.nil (by simp), rfl⟩, ⟨by simp, by simp, ?_⟩, by simp (maxSteps := 1000000) (dsimp := false) (disch := omega) only [go_sem, simprocAttr, *], by simp (maxSteps := 1000000) (dsimp := false) (disch := omega) only [go_sem, simprocAttr, *], by simp (maxSteps := 1000000) (dsimp := false) (disch := omega) only [go_sem, simprocAttr, *, isD], by simp (maxSteps := 1000000) (dsimp := false) (disch := omega) only [go_sem, simprocAttr, *, isD], by simp (maxSteps := 1000000) (dsimp := false) (disch := omega) only [go_sem, simprocAttr, *], by simp, by simp, fun y _ h => by simp at h⟩
    have : ∀ m, cntF (fun _ => false) m = m := fun m => by
      induction m with
      | zero => rfl
      | succ m ih => simp [cntF, ih]
    simp [this]
  · rintro e H ⟨j, hj, q, out, d, hds, hout, e6, e7, e15, e16, e17, g1, g2, g3⟩ R hR
    have h4 := hds.h4
    have h3 := hds.h3
    simp only [goA] at h4
    by_cases hb : j < l.length
    · have hcall := hgo _ l[j] q out d H (Nat.le_refl _) hds hout
      simp only [goA] at hcall
      repeat' (first | refine wpB_seq ?_ | refine wpB_regionL rfl ?_ | refine wpB_block ?_ | refine wpB_skip ?_ | refine wpB_exit ?_ | refine wpB_ret ?_ | simp (maxSteps := 1000000) (dsimp := false) (disch := omega) only [go_sem, simprocAttr, *, isD] | ((first | refine stepsB_both (fun hh => ?_) (fun hh => ?_) | refine stepsXB_both (fun hh => ?_) (fun hh => ?_)) <;> (try simp (maxSteps := 1000000) (dsimp := false) (disch := omega) only [go_sem, simprocAttr, decide_eq_true_eq, decide_eq_false_iff_not, Bool.not_eq_true, Bool.not_eq_false, Bool.not_eq_true', Bool.not_eq_false', Int.not_lt, Int.not_le, bne_iff_ne, bne_eq_false_iff_eq, beq_iff_eq, beq_eq_false_iff_ne, ne_eq, Int.ofNat_inj, Int.natCast_inj] at hh) <;> (try (exfalso; omega))) | (refine wpB_cond (by simp (maxSteps := 1000000) (dsimp := false) (disch := omega) only [go_sem, simprocAttr, *, isD]; exact rfl) (fun hh => ?_) (fun hh => ?_) <;> (try simp (maxSteps := 1000000) (dsimp := false) (disch := omega) only [go_sem, simprocAttr, decide_eq_true_eq, decide_eq_false_iff_not, Bool.not_eq_true, Bool.not_eq_false, Bool.not_eq_true', Bool.not_eq_false', Int.not_lt, Int.not_le, bne_iff_ne, bne_eq_false_iff_eq, beq_iff_eq, beq_eq_false_iff_ne, ne_eq, Int.ofNat_inj, Int.natCast_inj] at hh) <;> (try (exfalso; omega))))
      refine evB_state bo44 rfl rfl hcall ?_ (fun _ _ h => h.elim)
      rintro _ H2 ⟨q2, out2, d2, hd2, ho2, hw⟩
      repeat' (first | refine wpB_seq ?_ | refine wpB_regionL rfl ?_ | refine wpB_block ?_ | refine wpB_skip ?_ | refine wpB_exit ?_ | refine wpB_ret ?_ | simp (maxSteps := 1000000) (dsimp := false) (disch := omega) only [go_sem, simprocAttr, *] | ((first | refine stepsB_both (fun hh => ?_) (fun hh => ?_) | refine stepsXB_both (fun hh => ?_) (fun hh => ?_)) <;> (try simp (maxSteps := 1000000) (dsimp := false) (disch := omega) only [go_sem, simprocAttr, decide_eq_true_eq, decide_eq_false_iff_not, Bool.not_eq_true, Bool.not_eq_false, Bool.not_eq_true', Bool.not_eq_false', Int.not_lt, Int.not_le, bne_iff_ne, bne_eq_false_iff_eq, beq_iff_eq, beq_eq_false_iff_ne, ne_eq, Int.ofNat_inj, Int.natCast_inj] at hh) <;> (try (exfalso; omega))) | (refine wpB_cond (by simp (maxSteps := 1000000) (dsimp := false) (disch := omega) only [go_sem, simprocAttr, *]; exact rfl) (fun hh => ?_) (fun hh => ?_) <;> (try simp (maxSteps := 1000000) (dsimp := false) (disch := omega) only [go_sem, simprocAttr, decide_eq_true_eq, decide_eq_false_iff_not, Bool.not_eq_true, Bool.not_eq_false, Bool.not_eq_true', Bool.not_eq_false', Int.not_lt, Int.not_le, bne_iff_ne, bne_eq_false_iff_eq, beq_iff_eq, beq_eq_false_iff_ne, ne_eq, Int.ofNat_inj, Int.natCast_inj] at hh) <;> (try (exfalso; omega))))
      rcases hw with ⟨h7, rfl⟩ | ⟨h7, h8, h9, hw⟩
      · refine hR _ _ ⟨j + 1, by omega, q2, out2, d2, hd2, ho2, by simp (maxSteps := 1000000) (dsimp := false) (disch := omega) only [go_sem, simprocAttr, *], by simp (maxSteps := 1000000) (dsimp := false) (disch := omega) only [go_sem, simprocAttr, *], by simp (maxSteps := 1000000) (dsimp := false) (disch := omega) only [go_sem, simprocAttr, *], by simp (maxSteps := 1000000) (dsimp := false) (disch := omega) only [go_sem, simprocAttr, *], by simp (maxSteps := 1000000) (dsimp := false) (disch := omega) only [go_sem, simprocAttr, *], g1, g2, fun y hy hyl => ?_⟩ ?_
        · rw [take_succ' hb, List.mem_append] at hyl
          rcases hyl with h | h
          · exact g3 y hy h
          · simp at h; omega
        · simp (maxSteps := 1000000) (dsimp := false) (disch := omega) only [go_sem, simprocAttr, *, natOf_int]
      · obtain ⟨y, hy⟩ : ∃ y : Nat, l[j] = (y : Int) := ⟨l[j].toNat, by omega⟩
        rw [hy, Int.toNat_natCast] at h9 hw
        have hyS : inS k l y := ⟨by omega, by rw [← hy]; exact List.getElem_mem hb⟩
        refine hR _ _ ⟨j + 1, by omega, q2, out2, d2, hd2, ho2, by simp (maxSteps := 1000000) (dsimp := false) (disch := omega) only [go_sem, simprocAttr, *], by simp (maxSteps := 1000000) (dsimp := false) (disch := omega) only [go_sem, simprocAttr, *], by simp (maxSteps := 1000000) (dsimp := false) (disch := omega) only [go_sem, simprocAttr, *], by simp (maxSteps := 1000000) (dsimp := false) (disch := omega) only [go_sem, simprocAttr, *], by simp (maxSteps := 1000000) (dsimp := false) (disch := omega) only [go_sem, simprocAttr, *], fun x hx h => ?_, fun x hx h z hz => ?_, fun z hz hzl => ?_⟩ ?_
        · rcases hw.from' x hx h with h | h
          · exact g1 x hx h
          · exact h.sub fun z hz => by subst hz; exact .base hyS
        · cases hq : q x with
          | true => exact hw.keep z (by have := hfree x hx z hz; omega) (g2 x hx hq z hz)
          | false => exact hw.new x hx h hq z hz
        · rw [take_succ' hb, List.mem_append] at hzl
          rcases hzl with h | h
          · exact hw.keep z hz (g3 z hz h)
          · obtain rfl : z = y := by simp [hy] at h; omega
            exact h9
        · simp (maxSteps := 1000000) (dsimp := false) (disch := omega) only [go_sem, simprocAttr, *, natOf_int]
    · obtain ⟨H3, hs1, hs2, hs3⟩ := sort_vec hds.hv (by have := hout.len; omega)
      have h33 := hs3.2 3 (by omega)
      rw [h3] at h33
      obtain ⟨w1, w2, w3⟩ := hds.hv.one
      repeat' (first | refine wpB_seq ?_ | refine wpB_regionL rfl ?_ | refine wpB_block ?_ | refine wpB_skip ?_ | refine wpB_exit ?_ | refine wpB_ret ?_ | simp (maxSteps := 1000000) (dsimp := false) (disch := omega) only [go_sem, simprocAttr, *] | ((first | refine stepsB_both (fun hh => ?_) (fun hh => ?_) | refine stepsXB_both (fun hh => ?_) (fun hh => ?_)) <;> (try simp (maxSteps := 1000000) (dsimp := false) (disch := omega) only [go_sem, simprocAttr, decide_eq_true_eq, decide_eq_false_iff_not, Bool.not_eq_true, Bool.not_eq_false, Bool.not_eq_true', Bool.not_eq_false', Int.not_lt, Int.not_le, bne_iff_ne, bne_eq_false_iff_eq, beq_iff_eq, beq_eq_false_iff_ne, ne_eq, Int.ofNat_inj, Int.natCast_inj] at hh) <;> (try (exfalso; omega))) | (refine wpB_cond (by simp (maxSteps := 1000000) (dsimp := false) (disch := omega) only [go_sem, simprocAttr, *]; exact rfl) (fun hh => ?_) (fun hh => ?_) <;> (try simp (maxSteps := 1000000) (dsimp := false) (disch := omega) only [go_sem, simprocAttr, decide_eq_true_eq, decide_eq_false_iff_not, Bool.not_eq_true, Bool.not_eq_false, Bool.not_eq_true', Bool.not_eq_false', Int.not_lt, Int.not_le, bne_iff_ne, bne_eq_false_iff_eq, beq_iff_eq, beq_eq_false_iff_ne, ne_eq, Int.ofNat_inj, Int.natCast_inj] at hh) <;> (try (exfalso; omega))))
      refine evB_prim bo42 rfl hs1 ?_
      repeat' (first | refine wpB_seq ?_ | refine wpB_regionL rfl ?_ | refine wpB_block ?_ | refine wpB_skip ?_ | refine wpB_exit ?_ | refine wpB_ret ?_ | simp (maxSteps := 1000000) (dsimp := false) (disch := omega) only [go_sem, simprocAttr, *] | ((first | refine stepsB_both (fun hh => ?_) (fun hh => ?_) | refine stepsXB_both (fun hh => ?_) (fun hh => ?_)) <;> (try simp (maxSteps := 1000000) (dsimp := false) (disch := omega) only [go_sem, simprocAttr, decide_eq_true_eq, decide_eq_false_iff_not, Bool.not_eq_true, Bool.not_eq_false, Bool.not_eq_true', Bool.not_eq_false', Int.not_lt, Int.not_le, bne_iff_ne, bne_eq_false_iff_eq, beq_iff_eq, beq_eq_false_iff_ne, ne_eq, Int.ofNat_inj, Int.natCast_inj] at hh) <;> (try (exfalso; omega))) | (refine wpB_cond (by simp (maxSteps := 1000000) (dsimp := false) (disch := omega) only [go_sem, simprocAttr, *]; exact rfl) (fun hh => ?_) (fun hh => ?_) <;> (try simp (maxSteps := 1000000) (dsimp := false) (disch := omega) only [go_sem, simprocAttr, decide_eq_true_eq, decide_eq_false_iff_not, Bool.not_eq_true, Bool.not_eq_false, Bool.not_eq_true', Bool.not_eq_false', Int.not_lt, Int.not_le, bne_iff_ne, bne_eq_false_iff_eq, beq_iff_eq, beq_eq_false_iff_ne, ne_eq, Int.ofNat_inj, Int.natCast_inj] at hh) <;> (try (exfalso; omega))))
      rw [hs2.out (strip_ints _), sort_listZ hout]
      have he : listZ k q = listZ k (clo n (inS k l)) := by
        have := hceq q (fun s _ h => g3 s h.1 (by rw [List.take_of_length_le (by omega)]; exact h.2)) g1 g2
        unfold listZ
        congr 1
        exact List.filter_congr fun s hs => this s (by simpa using hs)
      rw [he]; rfl
end Go.Proofs.W
end
/- Machines with free steps: steps, ends, matches of the program. -/
section
set_option maxHeartbeats 4000000
set_option linter.unusedVariables false
set_option linter.unusedSimpArgs false
namespace Go.Proofs.W
open Go Vm Go.Proofs.Zs06

theorem pures_one {a x : D} {H : Heap} {k : Nat} (ha : strip a = some a) (hx : strip x = some x) (hk : k = H.length) : pures (H ++ [.arr [x]]) [a, .vec k 0 1] = some ([a, .sl false [x]], H ++ [.fro [x]]) := by
  subst hk
  have hg : hget (H ++ [Ob.arr [x]]) H.length = .arr [x] := by rw [hget_app0]; rfl
  simp only [pures, deepest, purL, pur_strip ha, Option.bind_some]
  rw [show (6 : Nat) = 4 + 2 from rfl, pur_vec, hg]
  have hs : stripL [x] = some [x] := by simp [stripL, hx]
  simp only [Nat.zero_add, List.length_cons, List.length_nil, Nat.le_refl, if_true, List.drop_zero, List.take_succ_cons, List.take_zero]
  rw [purL_strip hs]
  simp
/-- those by one category -/
noncomputable def clos (n : Nfa) (l : List Int) : List Int := listZ n.set.length (clo n (inS n.set.length l))
def stp (n : Nfa) (c : Int) (l : List Int) : List Int := listZ n.set.length (stepTo n c (fun s => decide ((s : Int) ∈ l)) n.set.length)
def okS (n : Nfa) (c s : Int) : Bool := isS n.set.length s && hit n c s.toNat
def steps (n : Nfa) (c : Int) (l : List Int) : List Int := (l.filter (okS n c)).map fun s => n.to.getD s.toNat 0
theorem steps_take {n : Nfa} {c : Int} {l : List Int} {j : Nat} (h : j < l.length) : steps n c (l.take (j + 1)) = steps n c (l.take j) ++ if okS n c l[j] then [n.to.getD l[j].toNat 0] else [] := by
  unfold steps
  rw [take_succ' h, List.filter_append, List.map_append]
  congr 1
  by_cases hq : okS n c l[j] = true <;> simp [hq]
theorem steps_len (n : Nfa) (c : Int) (l : List Int) : (steps n c l).length ≤ l.length := by
  have := List.length_filter_le (okS n c) l
  simpa [steps] using this
theorem steps_eq {n : Nfa} (hn : rightN n = true) (c : Int) (l : List Int) : Lib.compact (sortZ (steps n c l)) = stp n c l := by
  obtain ⟨h1, h2⟩ := compact_sorted (steps n c l)
  refine strict_unique h1 (listZ_strict _ _) fun x => ?_
  rw [h2]
  unfold stp
  rw [mem_listZ]
  simp only [steps, List.mem_map, List.mem_filter, stepTo, List.any_eq_true, List.mem_range, Bool.and_eq_true, decide_eq_true_eq, okS, isS_iff]
  constructor
  · rintro ⟨s, ⟨h3, ⟨h4, h5⟩, h6⟩, rfl⟩
    have := right_hit hn (by omega) h6
    exact ⟨(n.to.getD s.toNat 0).toNat, by omega, ⟨s.toNat, by omega, ⟨by rw [show ((s.toNat : Nat) : Int) = s by omega]; exact h3, h6⟩, by omega⟩, by omega⟩
  · rintro ⟨i, h3, ⟨j, h4, ⟨h5, h6⟩, h7⟩, rfl⟩
    exact ⟨(j : Int), ⟨h5, ⟨by omega, by omega⟩, by simpa using h6⟩, by simpa using h7⟩
theorem step_ok (n : Nfa) (c : Int) (l : List Int) (hn : rightN n = true) (hl : l.length ≤ 100000) : PureF Try.prog A 33 [nfaD n, isD l, .int .i64 c] (isD (stp n c l)) := by
  have hrr := right_row hn
  have hk := hrr.1
  have hk2 := hrr.2.1
  have hto0 := hrr.2.2.2.1
  have hse := steps_eq hn c l
  have hH : ∀ (i : Nat) (s : Int), n.set.getD i 0 = s → 0 ≤ c → c < 16 → hit n c i = bitZ s c := fun i s h h0 h1 => hit_bit h0 h1 h
  refine evF_inB (n := 57) (rs := [.tmp 6]) Try.func33 rfl rfl rfl rfl rfl rfl ?_
  repeat' (first | refine wpB_seq ?_ | refine wpB_regionL rfl ?_ | refine wpB_block ?_ | refine wpB_skip ?_ | refine wpB_exit ?_ | refine wpB_ret ?_ | simp (maxSteps := 1000000) (dsimp := false) (disch := omega) only [go_sem, simprocAttr, *, isD, nfaD] | ((first | refine stepsB_both (fun hh => ?_) (fun hh => ?_) | refine stepsXB_both (fun hh => ?_) (fun hh => ?_)) <;> (try simp (maxSteps := 1000000) (dsimp := false) (disch := omega) only [go_sem, simprocAttr, decide_eq_true_eq, decide_eq_false_iff_not, Bool.not_eq_true, Bool.not_eq_false, Bool.not_eq_true', Bool.not_eq_false', Int.not_lt, Int.not_le, bne_iff_ne, bne_eq_false_iff_eq, beq_iff_eq, beq_eq_false_iff_ne, ne_eq, Int.ofNat_inj, Int.natCast_inj] at hh) <;> (try (exfalso; omega))) | (refine wpB_cond (by simp (maxSteps := 1000000) (dsimp := false) (disch := omega) only [go_sem, simprocAttr, *, isD, nfaD]; exact rfl) (fun hh => ?_) (fun hh => ?_) <;> (try simp (maxSteps := 1000000) (dsimp := false) (disch := omega) only [go_sem, simprocAttr, decide_eq_true_eq, decide_eq_false_iff_not, Bool.not_eq_true, Bool.not_eq_false, Bool.not_eq_true', Bool.not_eq_false', Int.not_lt, Int.not_le, bne_iff_ne, bne_eq_false_iff_eq, beq_iff_eq, beq_eq_false_iff_ne, ne_eq, Int.ofNat_inj, Int.natCast_inj] at hh) <;> (try (exfalso; omega))))
  refine wpB_loop (fun e H => ∃ (j : Nat) (d : D), j ≤ l.length ∧ hget H 0 = .arr [nfaD n] ∧ VecAt 1 d H ((steps n c (l.take j)).map (.int .i64)) ∧ e 2 = .int .i64 c ∧ e 3 = .ptr 0 0 0 ∧ e 7 = d ∧ e 10 = isD l ∧ e 11 = .int .i64 l.length ∧ e 12 = .int .i64 j) (fun e H => l.length - natOf (e 12)) ?_ ?_
  · exact ⟨0, .sl true [], by omega, rfl, VecAt.nil (by simp), by simp (maxSteps := 1000000) (dsimp := false) (disch := omega) only [go_sem, simprocAttr, *], by simp (maxSteps := 1000000) (dsimp := false) (disch := omega) only [go_sem, simprocAttr, *], by simp (maxSteps := 1000000) (dsimp := false) (disch := omega) only [go_sem, simprocAttr, *], by simp (maxSteps := 1000000) (dsimp := false) (disch := omega) only [go_sem, simprocAttr, *, isD], by simp (maxSteps := 1000000) (dsimp := false) (disch := omega) only [go_sem, simprocAttr, *], by simp (maxSteps := 1000000) (dsimp := false) (disch := omega) only [go_sem, simprocAttr, *]⟩
  · rintro e H ⟨j, d, hj, h0, hv, e2, e3, e7, e10, e11, e12⟩ R hR
    by_cases hb : j < l.length
    · have hst := steps_take (n := n) (c := c) hb
      have no : okS n c l[j] = false → steps n c (l.take (j + 1)) = steps n c (l.take j) := fun h => by rw [hst, h]; simp
      by_cases hin : isS n.set.length l[j] = true
      · obtain ⟨i, hi⟩ : ∃ i : Nat, l[j] = (i : Int) := ⟨l[j].toNat, by have := isS_iff.1 hin; omega⟩
        have hik : i < n.set.length := by have := isS_iff.1 hin; omega
        obtain ⟨s, hs1, hs2⟩ := ex_at (l := n.set) (i := i) 0 (by omega)
        obtain ⟨t, ht1, ht2⟩ := ex_at (l := n.to) (i := i) 0 (by omega)
        have hx : l[j]? = some (i : Int) := by rw [List.getElem?_eq_getElem hb, hi]
        have hokS : okS n c l[j] = hit n c i := by rw [hi] at hin ⊢; simp only [okS, hin, Int.toNat_natCast, Bool.true_and]
        rw [hokS] at no hst
        have hbit := hH i s hs2
        simp only [bitZ] at hbit
        cases hht : hit n c i with
        | false =>
          have hno := no hht
          clear hst no hokS hin hi
          by_cases c0 : 0 ≤ c
          · by_cases c1 : c < 16
            · replace hbit := (hbit c0 c1).symm.trans hht
              repeat' (first | refine wpB_seq ?_ | refine wpB_regionL rfl ?_ | refine wpB_block ?_ | refine wpB_skip ?_ | refine wpB_exit ?_ | refine wpB_ret ?_ | simp (maxSteps := 1000000) (dsimp := false) (disch := omega) only [go_sem, simprocAttr, *, nfaD, u16D, isD] | ((first | refine stepsB_both (fun hh => ?_) (fun hh => ?_) | refine stepsXB_both (fun hh => ?_) (fun hh => ?_)) <;> (try simp (maxSteps := 1000000) (dsimp := false) (disch := omega) only [go_sem, simprocAttr, decide_eq_true_eq, decide_eq_false_iff_not, Bool.not_eq_true, Bool.not_eq_false, Bool.not_eq_true', Bool.not_eq_false', Int.not_lt, Int.not_le, bne_iff_ne, bne_eq_false_iff_eq, beq_iff_eq, beq_eq_false_iff_ne, ne_eq, Int.ofNat_inj, Int.natCast_inj] at hh) <;> (try (exfalso; omega))) | (refine wpB_cond (by simp (maxSteps := 1000000) (dsimp := false) (disch := omega) only [go_sem, simprocAttr, *, nfaD, u16D, isD]; exact rfl) (fun hh => ?_) (fun hh => ?_) <;> (try simp (maxSteps := 1000000) (dsimp := false) (disch := omega) only [go_sem, simprocAttr, decide_eq_true_eq, decide_eq_false_iff_not, Bool.not_eq_true, Bool.not_eq_false, Bool.not_eq_true', Bool.not_eq_false', Int.not_lt, Int.not_le, bne_iff_ne, bne_eq_false_iff_eq, beq_iff_eq, beq_eq_false_iff_ne, ne_eq, Int.ofNat_inj, Int.natCast_inj] at hh) <;> (try (exfalso; omega))))
              · exact absurd (hbit.symm.trans (beq_iff_eq.2 (by assumption))) (by decide)
              · refine hR _ _ ⟨j + 1, d, by omega, by simp (maxSteps := 1000000) (dsimp := false) (disch := omega) only [go_sem, simprocAttr, *, nfaD, u16D, isD], by rw [hno]; exact hv, by simp (maxSteps := 1000000) (dsimp := false) (disch := omega) only [go_sem, simprocAttr, *], by simp (maxSteps := 1000000) (dsimp := false) (disch := omega) only [go_sem, simprocAttr, *], by simp (maxSteps := 1000000) (dsimp := false) (disch := omega) only [go_sem, simprocAttr, *], by simp (maxSteps := 1000000) (dsimp := false) (disch := omega) only [go_sem, simprocAttr, *, isD], by simp (maxSteps := 1000000) (dsimp := false) (disch := omega) only [go_sem, simprocAttr, *], by simp (maxSteps := 1000000) (dsimp := false) (disch := omega) only [go_sem, simprocAttr, *]⟩ ?_
                simp (maxSteps := 1000000) (dsimp := false) (disch := omega) only [go_sem, simprocAttr, *, natOf_int]
            · clear hbit
              repeat' (first | refine wpB_seq ?_ | refine wpB_regionL rfl ?_ | refine wpB_block ?_ | refine wpB_skip ?_ | refine wpB_exit ?_ | refine wpB_ret ?_ | simp (maxSteps := 1000000) (dsimp := false) (disch := omega) only [go_sem, simprocAttr, *, nfaD, u16D, isD] | ((first | refine stepsB_both (fun hh => ?_) (fun hh => ?_) | refine stepsXB_both (fun hh => ?_) (fun hh => ?_)) <;> (try simp (maxSteps := 1000000) (dsimp := false) (disch := omega) only [go_sem, simprocAttr, decide_eq_true_eq, decide_eq_false_iff_not, Bool.not_eq_true, Bool.not_eq_false, Bool.not_eq_true', Bool.not_eq_false', Int.not_lt, Int.not_le, bne_iff_ne, bne_eq_false_iff_eq, beq_iff_eq, beq_eq_false_iff_ne, ne_eq, Int.ofNat_inj, Int.natCast_inj] at hh) <;> (try (exfalso; omega))) | (refine wpB_cond (by simp (maxSteps := 1000000) (dsimp := false) (disch := omega) only [go_sem, simprocAttr, *, nfaD, u16D, isD]; exact rfl) (fun hh => ?_) (fun hh => ?_) <;> (try simp (maxSteps := 1000000) (dsimp := false) (disch := omega) only [go_sem, simprocAttr, decide_eq_true_eq, decide_eq_false_iff_not, Bool.not_eq_true, Bool.not_eq_false, Bool.not_eq_true', Bool.not_eq_false', Int.not_lt, Int.not_le, bne_iff_ne, bne_eq_false_iff_eq, beq_iff_eq, beq_eq_false_iff_ne, ne_eq, Int.ofNat_inj, Int.natCast_inj] at hh) <;> (try (exfalso; omega))))
              refine hR _ _ ⟨j + 1, d, by omega, by simp (maxSteps := 1000000) (dsimp := false) (disch := omega) only [go_sem, simprocAttr, *, nfaD, u16D, isD], by rw [hno]; exact hv, by simp (maxSteps := 1000000) (dsimp := false) (disch := omega) only [go_sem, simprocAttr, *], by simp (maxSteps := 1000000) (dsimp := false) (disch := omega) only [go_sem, simprocAttr, *], by simp (maxSteps := 1000000) (dsimp := false) (disch := omega) only [go_sem, simprocAttr, *], by simp (maxSteps := 1000000) (dsimp := false) (disch := omega) only [go_sem, simprocAttr, *, isD], by simp (maxSteps := 1000000) (dsimp := false) (disch := omega) only [go_sem, simprocAttr, *], by simp (maxSteps := 1000000) (dsimp := false) (disch := omega) only [go_sem, simprocAttr, *]⟩ ?_
              simp (maxSteps := 1000000) (dsimp := false) (disch := omega) only [go_sem, simprocAttr, *, natOf_int]
          · clear hbit
            repeat' (first | refine wpB_seq ?_ | refine wpB_regionL rfl ?_ | refine wpB_block ?_ | refine wpB_skip ?_ | refine wpB_exit ?_ | refine wpB_ret ?_ | simp (maxSteps := 1000000) (dsimp := false) (disch := omega) only [go_sem, simprocAttr, *, nfaD, u16D, isD] | ((first | refine stepsB_both (fun hh => ?_) (fun hh => ?_) | refine stepsXB_both (fun hh => ?_) (fun hh => ?_)) <;> (try simp (maxSteps := 1000000) (dsimp := false) (disch := omega) only [go_sem, simprocAttr, decide_eq_true_eq, decide_eq_false_iff_not, Bool.not_eq_true, Bool.not_eq_false, Bool.not_eq_true', Bool.not_eq_false', Int.not_lt, Int.not_le, bne_iff_ne, bne_eq_false_iff_eq, beq_iff_eq, beq_eq_false_iff_ne, ne_eq, Int.ofNat_inj, Int.natCast_inj] at hh) <;> (try (exfalso; omega))) | (refine wpB_cond (by simp (maxSteps := 1000000) (dsimp := false) (disch := omega) only [go_sem, simprocAttr, *, nfaD, u16D, isD]; exact rfl) (fun hh => ?_) (fun hh => ?_) <;> (try simp (maxSteps := 1000000) (dsimp := false) (disch := omega) only [go_sem, simprocAttr, decide_eq_true_eq, decide_eq_false_iff_not, Bool.not_eq_true, Bool.not_eq_false, Bool.not_eq_true', Bool.not_eq_false', Int.not_lt, Int.not_le, bne_iff_ne, bne_eq_false_iff_eq, beq_iff_eq, beq_eq_false_iff_ne, ne_eq, Int.ofNat_inj, Int.natCast_inj] at hh) <;> (try (exfalso; omega))))
            refine hR _ _ ⟨j + 1, d, by omega, by simp (maxSteps := 1000000) (dsimp := false) (disch := omega) only [go_sem, simprocAttr, *, nfaD, u16D, isD], by rw [hno]; exact hv, by simp (maxSteps := 1000000) (dsimp := false) (disch := omega) only [go_sem, simprocAttr, *], by simp (maxSteps := 1000000) (dsimp := false) (disch := omega) only [go_sem, simprocAttr, *], by simp (maxSteps := 1000000) (dsimp := false) (disch := omega) only [go_sem, simprocAttr, *], by simp (maxSteps := 1000000) (dsimp := false) (disch := omega) only [go_sem, simprocAttr, *, isD], by simp (maxSteps := 1000000) (dsimp := false) (disch := omega) only [go_sem, simprocAttr, *], by simp (maxSteps := 1000000) (dsimp := false) (disch := omega) only [go_sem, simprocAttr, *]⟩ ?_
            simp (maxSteps := 1000000) (dsimp := false) (disch := omega) only [go_sem, simprocAttr, *, natOf_int]
        | true =>
          have hc : 0 ≤ c ∧ c < 16 := by
            simp only [hit, inB, Bool.and_eq_true, decide_eq_true_eq] at hht
            exact hht.1
          obtain ⟨c0, c1⟩ := hc
          replace hbit := (hbit c0 c1).symm.trans hht
          rw [hht, hi] at hst
          simp only [if_true, Int.toNat_natCast, ht2] at hst
          obtain ⟨d', H', ha, hv', hsm⟩ := app_int hv t (by have := steps_len n c (l.take j); simp at this; omega)
          have h0' := hsm.2 0 (by omega)
          rw [h0] at h0'
          clear no hokS hin hi
          repeat' (first | refine wpB_seq ?_ | refine wpB_regionL rfl ?_ | refine wpB_block ?_ | refine wpB_skip ?_ | refine wpB_exit ?_ | refine wpB_ret ?_ | simp (maxSteps := 1000000) (dsimp := false) (disch := omega) only [go_sem, simprocAttr, *, nfaD, u16D, isD] | ((first | refine stepsB_both (fun hh => ?_) (fun hh => ?_) | refine stepsXB_both (fun hh => ?_) (fun hh => ?_)) <;> (try simp (maxSteps := 1000000) (dsimp := false) (disch := omega) only [go_sem, simprocAttr, decide_eq_true_eq, decide_eq_false_iff_not, Bool.not_eq_true, Bool.not_eq_false, Bool.not_eq_true', Bool.not_eq_false', Int.not_lt, Int.not_le, bne_iff_ne, bne_eq_false_iff_eq, beq_iff_eq, beq_eq_false_iff_ne, ne_eq, Int.ofNat_inj, Int.natCast_inj] at hh) <;> (try (exfalso; omega))) | (refine wpB_cond (by simp (maxSteps := 1000000) (dsimp := false) (disch := omega) only [go_sem, simprocAttr, *, nfaD, u16D, isD]; exact rfl) (fun hh => ?_) (fun hh => ?_) <;> (try simp (maxSteps := 1000000) (dsimp := false) (disch := omega) only [go_sem, simprocAttr, decide_eq_true_eq, decide_eq_false_iff_not, Bool.not_eq_true, Bool.not_eq_false, Bool.not_eq_true', Bool.not_eq_false', Int.not_lt, Int.not_le, bne_iff_ne, bne_eq_false_iff_eq, beq_iff_eq, beq_eq_false_iff_ne, ne_eq, Int.ofNat_inj, Int.natCast_inj] at hh) <;> (try (exfalso; omega))))
          rotate_left
          · exact absurd (beq_iff_eq.1 hbit) (by assumption)
          refine hR _ _ ⟨j + 1, d', by omega, by simp (maxSteps := 1000000) (dsimp := false) (disch := omega) only [go_sem, simprocAttr, *, nfaD, u16D, isD], by rw [hst]; exact hv', by simp (maxSteps := 1000000) (dsimp := false) (disch := omega) only [go_sem, simprocAttr, *], by simp (maxSteps := 1000000) (dsimp := false) (disch := omega) only [go_sem, simprocAttr, *], by simp (maxSteps := 1000000) (dsimp := false) (disch := omega) only [go_sem, simprocAttr, *], by simp (maxSteps := 1000000) (dsimp := false) (disch := omega) only [go_sem, simprocAttr, *, isD], by simp (maxSteps := 1000000) (dsimp := false) (disch := omega) only [go_sem, simprocAttr, *], by simp (maxSteps := 1000000) (dsimp := false) (disch := omega) only [go_sem, simprocAttr, *]⟩ ?_
          simp (maxSteps := 1000000) (dsimp := false) (disch := omega) only [go_sem, simprocAttr, *, natOf_int]
      · have hno := no (by simp only [okS, Bool.and_eq_false_iff]; left; simpa using hin)
        have hrng : l[j] < 0 ∨ (n.set.length : Int) ≤ l[j] := by
          have : ¬ (0 ≤ l[j] ∧ l[j] < (n.set.length : Int)) := fun h => hin (isS_iff.2 h)
          omega
        clear no hst hH
        rcases hrng with h | h
        all_goals
          repeat' (first | refine wpB_seq ?_ | refine wpB_regionL rfl ?_ | refine wpB_block ?_ | refine wpB_skip ?_ | refine wpB_exit ?_ | refine wpB_ret ?_ | simp (maxSteps := 1000000) (dsimp := false) (disch := omega) only [go_sem, simprocAttr, *, nfaD, u16D, isD] | ((first | refine stepsB_both (fun hh => ?_) (fun hh => ?_) | refine stepsXB_both (fun hh => ?_) (fun hh => ?_)) <;> (try simp (maxSteps := 1000000) (dsimp := false) (disch := omega) only [go_sem, simprocAttr, decide_eq_true_eq, decide_eq_false_iff_not, Bool.not_eq_true, Bool.not_eq_false, Bool.not_eq_true', Bool.not_eq_false', Int.not_lt, Int.not_le, bne_iff_ne, bne_eq_false_iff_eq, beq_iff_eq, beq_eq_false_iff_ne, ne_eq, Int.ofNat_inj, Int.natCast_inj] at hh) <;> (try (exfalso; omega))) | (refine wpB_cond (by simp (maxSteps := 1000000) (dsimp := false) (disch := omega) only [go_sem, simprocAttr, *, nfaD, u16D, isD]; exact rfl) (fun hh => ?_) (fun hh => ?_) <;> (try simp (maxSteps := 1000000) (dsimp := false) (disch := omega) only [go_sem, simprocAttr, decide_eq_true_eq, decide_eq_false_iff_not, Bool.not_eq_true, Bool.not_eq_false, Bool.not_eq_true', Bool.not_eq_false', Int.not_lt, Int.not_le, bne_iff_ne, bne_eq_false_iff_eq, beq_iff_eq, beq_eq_false_iff_ne, ne_eq, Int.ofNat_inj, Int.natCast_inj] at hh) <;> (try (exfalso; omega))))
          refine hR _ _ ⟨j + 1, d, by omega, by simp (maxSteps := 1000000) (dsimp := false) (disch := omega) only [go_sem, simprocAttr, *, nfaD, u16D, isD], by rw [hno]; exact hv, by simp (maxSteps := 1000000) (dsimp := false) (disch := omega) only [go_sem, simprocAttr, *], by simp (maxSteps := 1000000) (dsimp := false) (disch := omega) only [go_sem, simprocAttr, *], by simp (maxSteps := 1000000) (dsimp := false) (disch := omega) only [go_sem, simprocAttr, *], by simp (maxSteps := 1000000) (dsimp := false) (disch := omega) only [go_sem, simprocAttr, *, isD], by simp (maxSteps := 1000000) (dsimp := false) (disch := omega) only [go_sem, simprocAttr, *], by simp (maxSteps := 1000000) (dsimp := false) (disch := omega) only [go_sem, simprocAttr, *]⟩ ?_
          simp (maxSteps := 1000000) (dsimp := false) (disch := omega) only [go_sem, simprocAttr, *, natOf_int]
    · have hle := steps_len n c (l.take j)
      rw [List.take_of_length_le (by omega)] at hv hle
      obtain ⟨H3, hs1, hs2, hs3⟩ := sort_vec hv (by omega)
      obtain ⟨d4, H4, hc1, hc2, hc3⟩ := compact_vec hs2 (by rw [sortZ_len]; omega)
      repeat' (first | refine wpB_seq ?_ | refine wpB_regionL rfl ?_ | refine wpB_block ?_ | refine wpB_skip ?_ | refine wpB_exit ?_ | refine wpB_ret ?_ | simp (maxSteps := 1000000) (dsimp := false) (disch := omega) only [go_sem, simprocAttr, *] | ((first | refine stepsB_both (fun hh => ?_) (fun hh => ?_) | refine stepsXB_both (fun hh => ?_) (fun hh => ?_)) <;> (try simp (maxSteps := 1000000) (dsimp := false) (disch := omega) only [go_sem, simprocAttr, decide_eq_true_eq, decide_eq_false_iff_not, Bool.not_eq_true, Bool.not_eq_false, Bool.not_eq_true', Bool.not_eq_false', Int.not_lt, Int.not_le, bne_iff_ne, bne_eq_false_iff_eq, beq_iff_eq, beq_eq_false_iff_ne, ne_eq, Int.ofNat_inj, Int.natCast_inj] at hh) <;> (try (exfalso; omega))) | (refine wpB_cond (by simp (maxSteps := 1000000) (dsimp := false) (disch := omega) only [go_sem, simprocAttr, *]; exact rfl) (fun hh => ?_) (fun hh => ?_) <;> (try simp (maxSteps := 1000000) (dsimp := false) (disch := omega) only [go_sem, simprocAttr, decide_eq_true_eq, decide_eq_false_iff_not, Bool.not_eq_true, Bool.not_eq_false, Bool.not_eq_true', Bool.not_eq_false', Int.not_lt, Int.not_le, bne_iff_ne, bne_eq_false_iff_eq, beq_iff_eq, beq_eq_false_iff_ne, ne_eq, Int.ofNat_inj, Int.natCast_inj] at hh) <;> (try (exfalso; omega))))
      refine evB_prim bo42 rfl hs1 ?_
      repeat' (first | refine wpB_seq ?_ | refine wpB_regionL rfl ?_ | refine wpB_block ?_ | refine wpB_skip ?_ | refine wpB_exit ?_ | refine wpB_ret ?_ | simp (maxSteps := 1000000) (dsimp := false) (disch := omega) only [go_sem, simprocAttr, *] | ((first | refine stepsB_both (fun hh => ?_) (fun hh => ?_) | refine stepsXB_both (fun hh => ?_) (fun hh => ?_)) <;> (try simp (maxSteps := 1000000) (dsimp := false) (disch := omega) only [go_sem, simprocAttr, decide_eq_true_eq, decide_eq_false_iff_not, Bool.not_eq_true, Bool.not_eq_false, Bool.not_eq_true', Bool.not_eq_false', Int.not_lt, Int.not_le, bne_iff_ne, bne_eq_false_iff_eq, beq_iff_eq, beq_eq_false_iff_ne, ne_eq, Int.ofNat_inj, Int.natCast_inj] at hh) <;> (try (exfalso; omega))) | (refine wpB_cond (by simp (maxSteps := 1000000) (dsimp := false) (disch := omega) only [go_sem, simprocAttr, *]; exact rfl) (fun hh => ?_) (fun hh => ?_) <;> (try simp (maxSteps := 1000000) (dsimp := false) (disch := omega) only [go_sem, simprocAttr, decide_eq_true_eq, decide_eq_false_iff_not, Bool.not_eq_true, Bool.not_eq_false, Bool.not_eq_true', Bool.not_eq_false', Int.not_lt, Int.not_le, bne_iff_ne, bne_eq_false_iff_eq, beq_iff_eq, beq_eq_false_iff_ne, ne_eq, Int.ofNat_inj, Int.natCast_inj] at hh) <;> (try (exfalso; omega))))
      refine evB_prim bo43 rfl hc1 ?_
      repeat' (first | refine wpB_seq ?_ | refine wpB_regionL rfl ?_ | refine wpB_block ?_ | refine wpB_skip ?_ | refine wpB_exit ?_ | refine wpB_ret ?_ | simp (maxSteps := 1000000) (dsimp := false) (disch := omega) only [go_sem, simprocAttr, *] | ((first | refine stepsB_both (fun hh => ?_) (fun hh => ?_) | refine stepsXB_both (fun hh => ?_) (fun hh => ?_)) <;> (try simp (maxSteps := 1000000) (dsimp := false) (disch := omega) only [go_sem, simprocAttr, decide_eq_true_eq, decide_eq_false_iff_not, Bool.not_eq_true, Bool.not_eq_false, Bool.not_eq_true', Bool.not_eq_false', Int.not_lt, Int.not_le, bne_iff_ne, bne_eq_false_iff_eq, beq_iff_eq, beq_eq_false_iff_ne, ne_eq, Int.ofNat_inj, Int.natCast_inj] at hh) <;> (try (exfalso; omega))) | (refine wpB_cond (by simp (maxSteps := 1000000) (dsimp := false) (disch := omega) only [go_sem, simprocAttr, *]; exact rfl) (fun hh => ?_) (fun hh => ?_) <;> (try simp (maxSteps := 1000000) (dsimp := false) (disch := omega) only [go_sem, simprocAttr, decide_eq_true_eq, decide_eq_false_iff_not, Bool.not_eq_true, Bool.not_eq_false, Bool.not_eq_true', Bool.not_eq_false', Int.not_lt, Int.not_le, bne_iff_ne, bne_eq_false_iff_eq, beq_iff_eq, beq_eq_false_iff_ne, ne_eq, Int.ofNat_inj, Int.natCast_inj] at hh) <;> (try (exfalso; omega))))
end Go.Proofs.W
end
/- Machines with free steps: ends and matches of the program. -/
section
set_option maxHeartbeats 4000000
set_option linter.unusedVariables false
set_option linter.unusedSimpArgs false
namespace Go.Proofs.W
open Go Vm Go.Proofs.Zs06

theorem evB_pureK {f : FuncId} {args xs : List D} {d : D} {H H' : Heap} {K Kp : D → Heap → Prop} (hb : bodied Try.prog f = true) (hp : A.prim f = none) (hm : A.mode f = .pure) (ha : pures H args = some (xs, H')) (h : PureF Try.prog A f xs d) (k : ∀ H2, H2 = H ∨ H2 = H' → PP (K d H2)) : EvB Try.prog A f args H K Kp := by
  refine evB_pure hb hp hm ha h ?_
  split
  · exact k _ (.inl rfl)
  · exact k _ (.inr rfl)
theorem alive_ok : PureF Try.prog A 7 [] (.bool true) := okTrue_run alive_run
theorem nfa_noTup (n : Nfa) : noTup (nfaD n) = true := rfl
theorem nfa_cells (n : Nfa) : (nfaD n).cells.length = 4 := rfl
theorem nfa_aggQ (n : Nfa) : aggQ (nfaD n) = true := rfl
theorem is_len (l : List Int) : lenU (some (.slice 3)) [] (isD l) = some l.length := by simp [isD, lenU]
theorem stripN (n : Nfa) : stripL [nfaD n] = some [nfaD n] := strip1 (strip_nfa n)
theorem stripNI (n : Nfa) (l : List Int) : stripL [nfaD n, isD l] = some [nfaD n, isD l] := strip2 (strip_nfa n) (strip_is l)
theorem stripNIc (n : Nfa) (l : List Int) (c : Int) : stripL [nfaD n, isD l, .int .i64 c] = some [nfaD n, isD l, .int .i64 c] := by simp [stripL, strip_nfa, strip_is, strip]
theorem ends_ok' (n : Nfa) (l : List Int) (hn : rightN n = true) (hl : ∀ s ∈ l, 0 ≤ s ∧ s < n.set.length) (hll : l.length ≤ 1000000) : PureF Try.prog A 36 [nfaD n, isD l] (.int .i64 (endsZ n l)) := by
  have hrr := right_row hn
  have hr := hrr.2.2.2.2.1
  have hx : endsZ n l = bestFrom (-1) ((l.drop 0).map fun s => n.rule.getD s.toNat 0) := rfl
  rw [hx]
  generalize hG : bestFrom (-1) ((l.drop 0).map fun s => n.rule.getD s.toNat 0) = G
  clear hx
  refine evF_inB (n := 34) (rs := [.tmp 4]) Try.func36 rfl rfl rfl rfl rfl rfl ?_
  repeat' (first | refine wpB_seq ?_ | refine wpB_regionL rfl ?_ | refine wpB_block ?_ | refine wpB_skip ?_ | refine wpB_exit ?_ | refine wpB_ret ?_ | simp (maxSteps := 1000000) (dsimp := false) (disch := omega) only [go_sem, simprocAttr, *, nfaD, isD] | ((first | refine stepsB_both (fun hh => ?_) (fun hh => ?_) | refine stepsXB_both (fun hh => ?_) (fun hh => ?_)) <;> (try simp (maxSteps := 1000000) (dsimp := false) (disch := omega) only [go_sem, simprocAttr, decide_eq_true_eq, decide_eq_false_iff_not, Bool.not_eq_true, Bool.not_eq_false, Bool.not_eq_true', Bool.not_eq_false', Int.not_lt, Int.not_le, bne_iff_ne, bne_eq_false_iff_eq, beq_iff_eq, beq_eq_false_iff_ne, ne_eq, Int.ofNat_inj, Int.natCast_inj] at hh) <;> (try (exfalso; omega))) | (refine wpB_cond (by simp (maxSteps := 1000000) (dsimp := false) (disch := omega) only [go_sem, simprocAttr, *, nfaD, isD]; exact rfl) (fun hh => ?_) (fun hh => ?_) <;> (try simp (maxSteps := 1000000) (dsimp := false) (disch := omega) only [go_sem, simprocAttr, decide_eq_true_eq, decide_eq_false_iff_not, Bool.not_eq_true, Bool.not_eq_false, Bool.not_eq_true', Bool.not_eq_false', Int.not_lt, Int.not_le, bne_iff_ne, bne_eq_false_iff_eq, beq_iff_eq, beq_eq_false_iff_ne, ne_eq, Int.ofNat_inj, Int.natCast_inj] at hh) <;> (try (exfalso; omega))))
  refine wpB_loop (fun e H => ∃ (j : Nat) (o : Int), j ≤ l.length ∧ H = [Ob.arr [nfaD n]] ∧ e 2 = .ptr 0 0 0 ∧ e 5 = .int .i64 o ∧ e 9 = isD l ∧ e 10 = .int .i64 l.length ∧ e 11 = .int .i64 j ∧ G = bestFrom o ((l.drop j).map fun s => n.rule.getD s.toNat 0)) (fun e H => l.length - natOf (e 11)) ?_ ?_
  · exact ⟨0, -1, by omega, rfl, by simp (maxSteps := 1000000) (dsimp := false) (disch := omega) only [go_sem, simprocAttr, *], by simp (maxSteps := 1000000) (dsimp := false) (disch := omega) only [go_sem, simprocAttr, *], by simp (maxSteps := 1000000) (dsimp := false) (disch := omega) only [go_sem, simprocAttr, *, isD], by simp (maxSteps := 1000000) (dsimp := false) (disch := omega) only [go_sem, simprocAttr, *], by simp (maxSteps := 1000000) (dsimp := false) (disch := omega) only [go_sem, simprocAttr, *], hG.symm⟩
  · clear hG
    rintro e H ⟨j, o, hj, rfl, e2, e5, e9, e10, e11, hG⟩ R hR
    by_cases hb : j < l.length
    · obtain ⟨i, hi⟩ : ∃ i : Nat, l[j] = (i : Int) := ⟨l[j].toNat, by have := (hl l[j] (List.getElem_mem hb)); omega⟩
      have hik : i < n.set.length := by have := (hl l[j] (List.getElem_mem hb)); omega
      have hx : l[j]? = some (i : Int) := by rw [List.getElem?_eq_getElem hb, hi]
      obtain ⟨t, ht1, ht2⟩ := ex_at (l := n.rule) (i := i) 0 (by omega)
      rw [List.drop_eq_getElem_cons hb, List.map_cons, bestFrom_cons, hi, Int.toNat_natCast, ht2] at hG
      repeat' (first | refine wpB_seq ?_ | refine wpB_regionL rfl ?_ | refine wpB_block ?_ | refine wpB_skip ?_ | refine wpB_exit ?_ | refine wpB_ret ?_ | simp (maxSteps := 1000000) (dsimp := false) (disch := omega) only [go_sem, simprocAttr, *, nfaD, isD] | ((first | refine stepsB_both (fun hh => ?_) (fun hh => ?_) | refine stepsXB_both (fun hh => ?_) (fun hh => ?_)) <;> (try simp (maxSteps := 1000000) (dsimp := false) (disch := omega) only [go_sem, simprocAttr, decide_eq_true_eq, decide_eq_false_iff_not, Bool.not_eq_true, Bool.not_eq_false, Bool.not_eq_true', Bool.not_eq_false', Int.not_lt, Int.not_le, bne_iff_ne, bne_eq_false_iff_eq, beq_iff_eq, beq_eq_false_iff_ne, ne_eq, Int.ofNat_inj, Int.natCast_inj] at hh) <;> (try (exfalso; omega))) | (refine wpB_cond (by simp (maxSteps := 1000000) (dsimp := false) (disch := omega) only [go_sem, simprocAttr, *, nfaD, isD]; exact rfl) (fun hh => ?_) (fun hh => ?_) <;> (try simp (maxSteps := 1000000) (dsimp := false) (disch := omega) only [go_sem, simprocAttr, decide_eq_true_eq, decide_eq_false_iff_not, Bool.not_eq_true, Bool.not_eq_false, Bool.not_eq_true', Bool.not_eq_false', Int.not_lt, Int.not_le, bne_iff_ne, bne_eq_false_iff_eq, beq_iff_eq, beq_eq_false_iff_ne, ne_eq, Int.ofNat_inj, Int.natCast_inj] at hh) <;> (try (exfalso; omega))))
      all_goals first
        | (rw [if_pos (by omega)] at hG; refine hR _ _ ⟨j + 1, t, by omega, by simp (maxSteps := 1000000) (dsimp := false) (disch := omega) only [go_sem, simprocAttr, *, nfaD, isD], by simp (maxSteps := 1000000) (dsimp := false) (disch := omega) only [go_sem, simprocAttr, *], by simp (maxSteps := 1000000) (dsimp := false) (disch := omega) only [go_sem, simprocAttr, *], by simp (maxSteps := 1000000) (dsimp := false) (disch := omega) only [go_sem, simprocAttr, *, isD], by simp (maxSteps := 1000000) (dsimp := false) (disch := omega) only [go_sem, simprocAttr, *], by simp (maxSteps := 1000000) (dsimp := false) (disch := omega) only [go_sem, simprocAttr, *], hG⟩ ?_; simp (maxSteps := 1000000) (dsimp := false) (disch := omega) only [go_sem, simprocAttr, *, natOf_int])
        | (rw [if_neg (by omega)] at hG; refine hR _ _ ⟨j + 1, o, by omega, by simp (maxSteps := 1000000) (dsimp := false) (disch := omega) only [go_sem, simprocAttr, *, nfaD, isD], by simp (maxSteps := 1000000) (dsimp := false) (disch := omega) only [go_sem, simprocAttr, *], by simp (maxSteps := 1000000) (dsimp := false) (disch := omega) only [go_sem, simprocAttr, *], by simp (maxSteps := 1000000) (dsimp := false) (disch := omega) only [go_sem, simprocAttr, *, isD], by simp (maxSteps := 1000000) (dsimp := false) (disch := omega) only [go_sem, simprocAttr, *], by simp (maxSteps := 1000000) (dsimp := false) (disch := omega) only [go_sem, simprocAttr, *], hG⟩ ?_; simp (maxSteps := 1000000) (dsimp := false) (disch := omega) only [go_sem, simprocAttr, *, natOf_int])
    · rw [List.drop_eq_nil_of_le (by omega)] at hG
      have : G = o := hG
      rw [this]
      repeat' (first | refine wpB_seq ?_ | refine wpB_regionL rfl ?_ | refine wpB_block ?_ | refine wpB_skip ?_ | refine wpB_exit ?_ | refine wpB_ret ?_ | simp (maxSteps := 1000000) (dsimp := false) (disch := omega) only [go_sem, simprocAttr, *] | ((first | refine stepsB_both (fun hh => ?_) (fun hh => ?_) | refine stepsXB_both (fun hh => ?_) (fun hh => ?_)) <;> (try simp (maxSteps := 1000000) (dsimp := false) (disch := omega) only [go_sem, simprocAttr, decide_eq_true_eq, decide_eq_false_iff_not, Bool.not_eq_true, Bool.not_eq_false, Bool.not_eq_true', Bool.not_eq_false', Int.not_lt, Int.not_le, bne_iff_ne, bne_eq_false_iff_eq, beq_iff_eq, beq_eq_false_iff_ne, ne_eq, Int.ofNat_inj, Int.natCast_inj] at hh) <;> (try (exfalso; omega))) | (refine wpB_cond (by simp (maxSteps := 1000000) (dsimp := false) (disch := omega) only [go_sem, simprocAttr, *]; exact rfl) (fun hh => ?_) (fun hh => ?_) <;> (try simp (maxSteps := 1000000) (dsimp := false) (disch := omega) only [go_sem, simprocAttr, decide_eq_true_eq, decide_eq_false_iff_not, Bool.not_eq_true, Bool.not_eq_false, Bool.not_eq_true', Bool.not_eq_false', Int.not_lt, Int.not_le, bne_iff_ne, bne_eq_false_iff_eq, beq_iff_eq, beq_eq_false_iff_ne, ne_eq, Int.ofNat_inj, Int.natCast_inj] at hh) <;> (try (exfalso; omega))))
noncomputable def closeN (n : Nfa) (l : List Int) : List Int := if rightN n then clos n l else []
def stepN (n : Nfa) (c : Int) (l : List Int) : List Int := if rightN n then stp n c l else []
noncomputable def atN (n : Nfa) (w : List Int) : List Int := w.foldl (fun at' c => clos n (stp n c at')) (clos n [0])
noncomputable def matchN (n : Nfa) (w : List Int) : Int := if rightN n then endsZ n (atN n w) else -1
structure OkN (n : Nfa) : Prop where
  len : n.set.length ≤ 100000
  fl : ∀ l ∈ n.free, l.length ≤ 1000000
theorem isEmpty_out (H : Heap) : outPure H (.sl true []) = some (isD []) := rfl
theorem close_ok (n : Nfa) (l : List Int) (h : OkN n) (hl : l.length ≤ 1000000) : PureF Try.prog A 16 [nfaD n, isD l] (isD (closeN n l)) := by
  have a1 := nfa_noTup n
  have a2 := nfa_cells n
  have a3 := nfa_aggQ n
  refine evF_inB (n := 11) (rs := [.tmp 4]) Try.func16 rfl rfl rfl rfl rfl rfl ?_
  repeat' (first | refine wpB_seq ?_ | refine wpB_regionL rfl ?_ | refine wpB_block ?_ | refine wpB_skip ?_ | refine wpB_exit ?_ | refine wpB_ret ?_ | simp (maxSteps := 1000000) (dsimp := false) (disch := omega) only [go_sem, simprocAttr, *] | ((first | refine stepsB_both (fun hh => ?_) (fun hh => ?_) | refine stepsXB_both (fun hh => ?_) (fun hh => ?_)) <;> (try simp (maxSteps := 1000000) (dsimp := false) (disch := omega) only [go_sem, simprocAttr, decide_eq_true_eq, decide_eq_false_iff_not, Bool.not_eq_true, Bool.not_eq_false, Bool.not_eq_true', Bool.not_eq_false', Int.not_lt, Int.not_le, bne_iff_ne, bne_eq_false_iff_eq, beq_iff_eq, beq_eq_false_iff_ne, ne_eq, Int.ofNat_inj, Int.natCast_inj] at hh) <;> (try (exfalso; omega))) | (refine wpB_cond (by simp (maxSteps := 1000000) (dsimp := false) (disch := omega) only [go_sem, simprocAttr, *]; exact rfl) (fun hh => ?_) (fun hh => ?_) <;> (try simp (maxSteps := 1000000) (dsimp := false) (disch := omega) only [go_sem, simprocAttr, decide_eq_true_eq, decide_eq_false_iff_not, Bool.not_eq_true, Bool.not_eq_false, Bool.not_eq_true', Bool.not_eq_false', Int.not_lt, Int.not_le, bne_iff_ne, bne_eq_false_iff_eq, beq_iff_eq, beq_eq_false_iff_ne, ne_eq, Int.ofNat_inj, Int.natCast_inj] at hh) <;> (try (exfalso; omega))))
  refine evB_plain bo15 rfl rfl (stripN n) (nright_ok n (by have := h.len; omega) h.fl) ?_
  unfold closeN
  cases hr : rightN n with
  | false =>
    repeat' (first | refine wpB_seq ?_ | refine wpB_regionL rfl ?_ | refine wpB_block ?_ | refine wpB_skip ?_ | refine wpB_exit ?_ | refine wpB_ret ?_ | simp (maxSteps := 1000000) (dsimp := false) (disch := omega) only [go_sem, simprocAttr, *] | ((first | refine stepsB_both (fun hh => ?_) (fun hh => ?_) | refine stepsXB_both (fun hh => ?_) (fun hh => ?_)) <;> (try simp (maxSteps := 1000000) (dsimp := false) (disch := omega) only [go_sem, simprocAttr, decide_eq_true_eq, decide_eq_false_iff_not, Bool.not_eq_true, Bool.not_eq_false, Bool.not_eq_true', Bool.not_eq_false', Int.not_lt, Int.not_le, bne_iff_ne, bne_eq_false_iff_eq, beq_iff_eq, beq_eq_false_iff_ne, ne_eq, Int.ofNat_inj, Int.natCast_inj] at hh) <;> (try (exfalso; omega))) | (refine wpB_cond (by simp (maxSteps := 1000000) (dsimp := false) (disch := omega) only [go_sem, simprocAttr, *]; exact rfl) (fun hh => ?_) (fun hh => ?_) <;> (try simp (maxSteps := 1000000) (dsimp := false) (disch := omega) only [go_sem, simprocAttr, decide_eq_true_eq, decide_eq_false_iff_not, Bool.not_eq_true, Bool.not_eq_false, Bool.not_eq_true', Bool.not_eq_false', Int.not_lt, Int.not_le, bne_iff_ne, bne_eq_false_iff_eq, beq_iff_eq, beq_eq_false_iff_ne, ne_eq, Int.ofNat_inj, Int.natCast_inj] at hh) <;> (try (exfalso; omega))))
    rfl
  | true =>
    repeat' (first | refine wpB_seq ?_ | refine wpB_regionL rfl ?_ | refine wpB_block ?_ | refine wpB_skip ?_ | refine wpB_exit ?_ | refine wpB_ret ?_ | simp (maxSteps := 1000000) (dsimp := false) (disch := omega) only [go_sem, simprocAttr, *] | ((first | refine stepsB_both (fun hh => ?_) (fun hh => ?_) | refine stepsXB_both (fun hh => ?_) (fun hh => ?_)) <;> (try simp (maxSteps := 1000000) (dsimp := false) (disch := omega) only [go_sem, simprocAttr, decide_eq_true_eq, decide_eq_false_iff_not, Bool.not_eq_true, Bool.not_eq_false, Bool.not_eq_true', Bool.not_eq_false', Int.not_lt, Int.not_le, bne_iff_ne, bne_eq_false_iff_eq, beq_iff_eq, beq_eq_false_iff_ne, ne_eq, Int.ofNat_inj, Int.natCast_inj] at hh) <;> (try (exfalso; omega))) | (refine wpB_cond (by simp (maxSteps := 1000000) (dsimp := false) (disch := omega) only [go_sem, simprocAttr, *]; exact rfl) (fun hh => ?_) (fun hh => ?_) <;> (try simp (maxSteps := 1000000) (dsimp := false) (disch := omega) only [go_sem, simprocAttr, decide_eq_true_eq, decide_eq_false_iff_not, Bool.not_eq_true, Bool.not_eq_false, Bool.not_eq_true', Bool.not_eq_false', Int.not_lt, Int.not_le, bne_iff_ne, bne_eq_false_iff_eq, beq_iff_eq, beq_eq_false_iff_ne, ne_eq, Int.ofNat_inj, Int.natCast_inj] at hh) <;> (try (exfalso; omega))))
    refine evB_plain bo35 rfl rfl (stripNI n l) (closed_ok n l hr h.fl hl) ?_
    repeat' (first | refine wpB_seq ?_ | refine wpB_regionL rfl ?_ | refine wpB_block ?_ | refine wpB_skip ?_ | refine wpB_exit ?_ | refine wpB_ret ?_ | simp (maxSteps := 1000000) (dsimp := false) (disch := omega) only [go_sem, simprocAttr, *] | ((first | refine stepsB_both (fun hh => ?_) (fun hh => ?_) | refine stepsXB_both (fun hh => ?_) (fun hh => ?_)) <;> (try simp (maxSteps := 1000000) (dsimp := false) (disch := omega) only [go_sem, simprocAttr, decide_eq_true_eq, decide_eq_false_iff_not, Bool.not_eq_true, Bool.not_eq_false, Bool.not_eq_true', Bool.not_eq_false', Int.not_lt, Int.not_le, bne_iff_ne, bne_eq_false_iff_eq, beq_iff_eq, beq_eq_false_iff_ne, ne_eq, Int.ofNat_inj, Int.natCast_inj] at hh) <;> (try (exfalso; omega))) | (refine wpB_cond (by simp (maxSteps := 1000000) (dsimp := false) (disch := omega) only [go_sem, simprocAttr, *]; exact rfl) (fun hh => ?_) (fun hh => ?_) <;> (try simp (maxSteps := 1000000) (dsimp := false) (disch := omega) only [go_sem, simprocAttr, decide_eq_true_eq, decide_eq_false_iff_not, Bool.not_eq_true, Bool.not_eq_false, Bool.not_eq_true', Bool.not_eq_false', Int.not_lt, Int.not_le, bne_iff_ne, bne_eq_false_iff_eq, beq_iff_eq, beq_eq_false_iff_ne, ne_eq, Int.ofNat_inj, Int.natCast_inj] at hh) <;> (try (exfalso; omega))))
    exact outPure_strip (strip_is _)
theorem stepc_ok (n : Nfa) (l : List Int) (c : Int) (h : OkN n) (hl : l.length ≤ 100000) : PureF Try.prog A 12 [nfaD n, isD l, .int .i64 c] (isD (stepN n c l)) := by
  have a1 := nfa_noTup n
  have a2 := nfa_cells n
  have a3 := nfa_aggQ n
  refine evF_inB (n := 14) (rs := [.tmp 6]) Try.func12 rfl rfl rfl rfl rfl rfl ?_
  repeat' (first | refine wpB_seq ?_ | refine wpB_regionL rfl ?_ | refine wpB_block ?_ | refine wpB_skip ?_ | refine wpB_exit ?_ | refine wpB_ret ?_ | simp (maxSteps := 1000000) (dsimp := false) (disch := omega) only [go_sem, simprocAttr, *] | ((first | refine stepsB_both (fun hh => ?_) (fun hh => ?_) | refine stepsXB_both (fun hh => ?_) (fun hh => ?_)) <;> (try simp (maxSteps := 1000000) (dsimp := false) (disch := omega) only [go_sem, simprocAttr, decide_eq_true_eq, decide_eq_false_iff_not, Bool.not_eq_true, Bool.not_eq_false, Bool.not_eq_true', Bool.not_eq_false', Int.not_lt, Int.not_le, bne_iff_ne, bne_eq_false_iff_eq, beq_iff_eq, beq_eq_false_iff_ne, ne_eq, Int.ofNat_inj, Int.natCast_inj] at hh) <;> (try (exfalso; omega))) | (refine wpB_cond (by simp (maxSteps := 1000000) (dsimp := false) (disch := omega) only [go_sem, simprocAttr, *]; exact rfl) (fun hh => ?_) (fun hh => ?_) <;> (try simp (maxSteps := 1000000) (dsimp := false) (disch := omega) only [go_sem, simprocAttr, decide_eq_true_eq, decide_eq_false_iff_not, Bool.not_eq_true, Bool.not_eq_false, Bool.not_eq_true', Bool.not_eq_false', Int.not_lt, Int.not_le, bne_iff_ne, bne_eq_false_iff_eq, beq_iff_eq, beq_eq_false_iff_ne, ne_eq, Int.ofNat_inj, Int.natCast_inj] at hh) <;> (try (exfalso; omega))))
  refine evB_plain bo15 rfl rfl (stripN n) (nright_ok n (by have := h.len; omega) h.fl) ?_
  unfold stepN
  cases hr : rightN n with
  | false =>
    repeat' (first | refine wpB_seq ?_ | refine wpB_regionL rfl ?_ | refine wpB_block ?_ | refine wpB_skip ?_ | refine wpB_exit ?_ | refine wpB_ret ?_ | simp (maxSteps := 1000000) (dsimp := false) (disch := omega) only [go_sem, simprocAttr, *] | ((first | refine stepsB_both (fun hh => ?_) (fun hh => ?_) | refine stepsXB_both (fun hh => ?_) (fun hh => ?_)) <;> (try simp (maxSteps := 1000000) (dsimp := false) (disch := omega) only [go_sem, simprocAttr, decide_eq_true_eq, decide_eq_false_iff_not, Bool.not_eq_true, Bool.not_eq_false, Bool.not_eq_true', Bool.not_eq_false', Int.not_lt, Int.not_le, bne_iff_ne, bne_eq_false_iff_eq, beq_iff_eq, beq_eq_false_iff_ne, ne_eq, Int.ofNat_inj, Int.natCast_inj] at hh) <;> (try (exfalso; omega))) | (refine wpB_cond (by simp (maxSteps := 1000000) (dsimp := false) (disch := omega) only [go_sem, simprocAttr, *]; exact rfl) (fun hh => ?_) (fun hh => ?_) <;> (try simp (maxSteps := 1000000) (dsimp := false) (disch := omega) only [go_sem, simprocAttr, decide_eq_true_eq, decide_eq_false_iff_not, Bool.not_eq_true, Bool.not_eq_false, Bool.not_eq_true', Bool.not_eq_false', Int.not_lt, Int.not_le, bne_iff_ne, bne_eq_false_iff_eq, beq_iff_eq, beq_eq_false_iff_ne, ne_eq, Int.ofNat_inj, Int.natCast_inj] at hh) <;> (try (exfalso; omega))))
    rfl
  | true =>
    repeat' (first | refine wpB_seq ?_ | refine wpB_regionL rfl ?_ | refine wpB_block ?_ | refine wpB_skip ?_ | refine wpB_exit ?_ | refine wpB_ret ?_ | simp (maxSteps := 1000000) (dsimp := false) (disch := omega) only [go_sem, simprocAttr, *] | ((first | refine stepsB_both (fun hh => ?_) (fun hh => ?_) | refine stepsXB_both (fun hh => ?_) (fun hh => ?_)) <;> (try simp (maxSteps := 1000000) (dsimp := false) (disch := omega) only [go_sem, simprocAttr, decide_eq_true_eq, decide_eq_false_iff_not, Bool.not_eq_true, Bool.not_eq_false, Bool.not_eq_true', Bool.not_eq_false', Int.not_lt, Int.not_le, bne_iff_ne, bne_eq_false_iff_eq, beq_iff_eq, beq_eq_false_iff_ne, ne_eq, Int.ofNat_inj, Int.natCast_inj] at hh) <;> (try (exfalso; omega))) | (refine wpB_cond (by simp (maxSteps := 1000000) (dsimp := false) (disch := omega) only [go_sem, simprocAttr, *]; exact rfl) (fun hh => ?_) (fun hh => ?_) <;> (try simp (maxSteps := 1000000) (dsimp := false) (disch := omega) only [go_sem, simprocAttr, decide_eq_true_eq, decide_eq_false_iff_not, Bool.not_eq_true, Bool.not_eq_false, Bool.not_eq_true', Bool.not_eq_false', Int.not_lt, Int.not_le, bne_iff_ne, bne_eq_false_iff_eq, beq_iff_eq, beq_eq_false_iff_ne, ne_eq, Int.ofNat_inj, Int.natCast_inj] at hh) <;> (try (exfalso; omega))))
    refine evB_plain bo33 rfl rfl (stripNIc n l c) (step_ok n c l hr hl) ?_
    repeat' (first | refine wpB_seq ?_ | refine wpB_regionL rfl ?_ | refine wpB_block ?_ | refine wpB_skip ?_ | refine wpB_exit ?_ | refine wpB_ret ?_ | simp (maxSteps := 1000000) (dsimp := false) (disch := omega) only [go_sem, simprocAttr, *] | ((first | refine stepsB_both (fun hh => ?_) (fun hh => ?_) | refine stepsXB_both (fun hh => ?_) (fun hh => ?_)) <;> (try simp (maxSteps := 1000000) (dsimp := false) (disch := omega) only [go_sem, simprocAttr, decide_eq_true_eq, decide_eq_false_iff_not, Bool.not_eq_true, Bool.not_eq_false, Bool.not_eq_true', Bool.not_eq_false', Int.not_lt, Int.not_le, bne_iff_ne, bne_eq_false_iff_eq, beq_iff_eq, beq_eq_false_iff_ne, ne_eq, Int.ofNat_inj, Int.natCast_inj] at hh) <;> (try (exfalso; omega))) | (refine wpB_cond (by simp (maxSteps := 1000000) (dsimp := false) (disch := omega) only [go_sem, simprocAttr, *]; exact rfl) (fun hh => ?_) (fun hh => ?_) <;> (try simp (maxSteps := 1000000) (dsimp := false) (disch := omega) only [go_sem, simprocAttr, decide_eq_true_eq, decide_eq_false_iff_not, Bool.not_eq_true, Bool.not_eq_false, Bool.not_eq_true', Bool.not_eq_false', Int.not_lt, Int.not_le, bne_iff_ne, bne_eq_false_iff_eq, beq_iff_eq, beq_eq_false_iff_ne, ne_eq, Int.ofNat_inj, Int.natCast_inj] at hh) <;> (try (exfalso; omega))))
    exact outPure_strip (strip_is _)
theorem stp_len (n : Nfa) (c : Int) (l : List Int) : (stp n c l).length ≤ n.set.length := listZ_len _ _
theorem clos_len (n : Nfa) (l : List Int) : (clos n l).length ≤ n.set.length := listZ_len _ _
theorem clos_in {n : Nfa} {l : List Int} {s : Int} (h : s ∈ clos n l) : 0 ≤ s ∧ s < n.set.length := by
  obtain ⟨i, h1, h2, h3⟩ := mem_listZ.1 h
  omega
theorem atN_clos (n : Nfa) (w : List Int) : ∃ l, atN n w = clos n l := by
  have : ∀ (w : List Int) (a : List Int), (∃ l, a = clos n l) → ∃ l, w.foldl (fun at' c => clos n (stp n c at')) a = clos n l := by
    intro w
    induction w with
    | nil => exact fun a h => h
    | cons c w ih => exact fun a h => ih _ ⟨_, rfl⟩
  exact this w _ ⟨_, rfl⟩
theorem atN_take {n : Nfa} {w : List Int} {j : Nat} (h : j < w.length) : atN n (w.take (j + 1)) = clos n (stp n w[j] (atN n (w.take j))) := by
  unfold atN
  rw [take_succ' h, List.foldl_append]
  rfl
theorem match_ok (n : Nfa) (w : List Int) (h : OkN n) (hl : w.length ≤ 1000000) : PureF Try.prog A 17 [nfaD n, isD w] (.int .i64 (matchN n w)) := by
  have a1 := nfa_noTup n
  have a2 := nfa_cells n
  have a3 := nfa_aggQ n
  refine evF_inB (n := 30) (rs := [.tmp 4]) Try.func17 rfl rfl rfl rfl rfl rfl ?_
  repeat' (first | refine wpB_seq ?_ | refine wpB_regionL rfl ?_ | refine wpB_block ?_ | refine wpB_skip ?_ | refine wpB_exit ?_ | refine wpB_ret ?_ | simp (maxSteps := 1000000) (dsimp := false) (disch := omega) only [go_sem, simprocAttr, *] | ((first | refine stepsB_both (fun hh => ?_) (fun hh => ?_) | refine stepsXB_both (fun hh => ?_) (fun hh => ?_)) <;> (try simp (maxSteps := 1000000) (dsimp := false) (disch := omega) only [go_sem, simprocAttr, decide_eq_true_eq, decide_eq_false_iff_not, Bool.not_eq_true, Bool.not_eq_false, Bool.not_eq_true', Bool.not_eq_false', Int.not_lt, Int.not_le, bne_iff_ne, bne_eq_false_iff_eq, beq_iff_eq, beq_eq_false_iff_ne, ne_eq, Int.ofNat_inj, Int.natCast_inj] at hh) <;> (try (exfalso; omega))) | (refine wpB_cond (by simp (maxSteps := 1000000) (dsimp := false) (disch := omega) only [go_sem, simprocAttr, *]; exact rfl) (fun hh => ?_) (fun hh => ?_) <;> (try simp (maxSteps := 1000000) (dsimp := false) (disch := omega) only [go_sem, simprocAttr, decide_eq_true_eq, decide_eq_false_iff_not, Bool.not_eq_true, Bool.not_eq_false, Bool.not_eq_true', Bool.not_eq_false', Int.not_lt, Int.not_le, bne_iff_ne, bne_eq_false_iff_eq, beq_iff_eq, beq_eq_false_iff_ne, ne_eq, Int.ofNat_inj, Int.natCast_inj] at hh) <;> (try (exfalso; omega))))
  refine evB_plain bo15 rfl rfl (stripN n) (nright_ok n (by have := h.len; omega) h.fl) ?_
  unfold matchN
  cases hr : rightN n with
  | false =>
    repeat' (first | refine wpB_seq ?_ | refine wpB_regionL rfl ?_ | refine wpB_block ?_ | refine wpB_skip ?_ | refine wpB_exit ?_ | refine wpB_ret ?_ | simp (maxSteps := 1000000) (dsimp := false) (disch := omega) only [go_sem, simprocAttr, *] | ((first | refine stepsB_both (fun hh => ?_) (fun hh => ?_) | refine stepsXB_both (fun hh => ?_) (fun hh => ?_)) <;> (try simp (maxSteps := 1000000) (dsimp := false) (disch := omega) only [go_sem, simprocAttr, decide_eq_true_eq, decide_eq_false_iff_not, Bool.not_eq_true, Bool.not_eq_false, Bool.not_eq_true', Bool.not_eq_false', Int.not_lt, Int.not_le, bne_iff_ne, bne_eq_false_iff_eq, beq_iff_eq, beq_eq_false_iff_ne, ne_eq, Int.ofNat_inj, Int.natCast_inj] at hh) <;> (try (exfalso; omega))) | (refine wpB_cond (by simp (maxSteps := 1000000) (dsimp := false) (disch := omega) only [go_sem, simprocAttr, *]; exact rfl) (fun hh => ?_) (fun hh => ?_) <;> (try simp (maxSteps := 1000000) (dsimp := false) (disch := omega) only [go_sem, simprocAttr, decide_eq_true_eq, decide_eq_false_iff_not, Bool.not_eq_true, Bool.not_eq_false, Bool.not_eq_true', Bool.not_eq_false', Int.not_lt, Int.not_le, bne_iff_ne, bne_eq_false_iff_eq, beq_iff_eq, beq_eq_false_iff_ne, ne_eq, Int.ofNat_inj, Int.natCast_inj] at hh) <;> (try (exfalso; omega))))
    try rfl
  | true =>
    have hcl := fun l hl => closed_ok n l hr h.fl (by have := hl; omega : l.length ≤ 1000000)
    have hal : ∀ w, (atN n w).length ≤ 100000 := fun w => by
      obtain ⟨l, hl⟩ := atN_clos n w
      rw [hl]; have := clos_len n l; have := h.len; omega
    repeat' (first | refine wpB_seq ?_ | refine wpB_regionL rfl ?_ | refine wpB_block ?_ | refine wpB_skip ?_ | refine wpB_exit ?_ | refine wpB_ret ?_ | simp (maxSteps := 1000000) (dsimp := false) (disch := omega) only [go_sem, simprocAttr, *] | ((first | refine stepsB_both (fun hh => ?_) (fun hh => ?_) | refine stepsXB_both (fun hh => ?_) (fun hh => ?_)) <;> (try simp (maxSteps := 1000000) (dsimp := false) (disch := omega) only [go_sem, simprocAttr, decide_eq_true_eq, decide_eq_false_iff_not, Bool.not_eq_true, Bool.not_eq_false, Bool.not_eq_true', Bool.not_eq_false', Int.not_lt, Int.not_le, bne_iff_ne, bne_eq_false_iff_eq, beq_iff_eq, beq_eq_false_iff_ne, ne_eq, Int.ofNat_inj, Int.natCast_inj] at hh) <;> (try (exfalso; omega))) | (refine wpB_cond (by simp (maxSteps := 1000000) (dsimp := false) (disch := omega) only [go_sem, simprocAttr, *]; exact rfl) (fun hh => ?_) (fun hh => ?_) <;> (try simp (maxSteps := 1000000) (dsimp := false) (disch := omega) only [go_sem, simprocAttr, decide_eq_true_eq, decide_eq_false_iff_not, Bool.not_eq_true, Bool.not_eq_false, Bool.not_eq_true', Bool.not_eq_false', Int.not_lt, Int.not_le, bne_iff_ne, bne_eq_false_iff_eq, beq_iff_eq, beq_eq_false_iff_ne, ne_eq, Int.ofNat_inj, Int.natCast_inj] at hh) <;> (try (exfalso; omega))))
    refine evB_pureK bo35 rfl rfl (pures_one (H := [Ob.arr [nfaD n]]) (strip_nfa n) rfl rfl) (closed_ok n [0] hr h.fl (by simp)) ?_
    intro H1 hH1
    have h0 : hget H1 0 = .arr [nfaD n] := by rcases hH1 with rfl | rfl <;> rfl
    clear hH1
    rw [show listZ n.set.length (clo n (inS n.set.length [0])) = atN n (w.take 0) from rfl]
    repeat' (first | refine wpB_seq ?_ | refine wpB_regionL rfl ?_ | refine wpB_block ?_ | refine wpB_skip ?_ | refine wpB_exit ?_ | refine wpB_ret ?_ | simp (maxSteps := 1000000) (dsimp := false) (disch := omega) only [go_sem, simprocAttr, *, isD] | ((first | refine stepsB_both (fun hh => ?_) (fun hh => ?_) | refine stepsXB_both (fun hh => ?_) (fun hh => ?_)) <;> (try simp (maxSteps := 1000000) (dsimp := false) (disch := omega) only [go_sem, simprocAttr, decide_eq_true_eq, decide_eq_false_iff_not, Bool.not_eq_true, Bool.not_eq_false, Bool.not_eq_true', Bool.not_eq_false', Int.not_lt, Int.not_le, bne_iff_ne, bne_eq_false_iff_eq, beq_iff_eq, beq_eq_false_iff_ne, ne_eq, Int.ofNat_inj, Int.natCast_inj] at hh) <;> (try (exfalso; omega))) | (refine wpB_cond (by simp (maxSteps := 1000000) (dsimp := false) (disch := omega) only [go_sem, simprocAttr, *, isD]; exact rfl) (fun hh => ?_) (fun hh => ?_) <;> (try simp (maxSteps := 1000000) (dsimp := false) (disch := omega) only [go_sem, simprocAttr, decide_eq_true_eq, decide_eq_false_iff_not, Bool.not_eq_true, Bool.not_eq_false, Bool.not_eq_true', Bool.not_eq_false', Int.not_lt, Int.not_le, bne_iff_ne, bne_eq_false_iff_eq, beq_iff_eq, beq_eq_false_iff_ne, ne_eq, Int.ofNat_inj, Int.natCast_inj] at hh) <;> (try (exfalso; omega))))
    refine wpB_loop (fun e H => ∃ (j : Nat), j ≤ w.length ∧ hget H 0 = .arr [nfaD n] ∧ e 2 = .ptr 0 0 0 ∧ e 5 = isD (atN n (w.take j)) ∧ e 14 = isD w ∧ e 15 = .int .i64 w.length ∧ e 16 = .int .i64 j) (fun e H => w.length - natOf (e 16)) ?_ ?_
    · exact ⟨0, by omega, h0, by simp (maxSteps := 1000000) (dsimp := false) (disch := omega) only [go_sem, simprocAttr, *], by simp (maxSteps := 1000000) (dsimp := false) (disch := omega) only [go_sem, simprocAttr, *, isD], by simp (maxSteps := 1000000) (dsimp := false) (disch := omega) only [go_sem, simprocAttr, *, isD], by simp (maxSteps := 1000000) (dsimp := false) (disch := omega) only [go_sem, simprocAttr, *], by simp (maxSteps := 1000000) (dsimp := false) (disch := omega) only [go_sem, simprocAttr, *]⟩
    · clear h0
      rintro e H ⟨j, hj, h0, e2, e5, e14, e15, e16⟩ R hR
      by_cases hb : j < w.length
      · have hst := step_ok n w[j] (atN n (w.take j)) hr (hal _)
        have hcl2 := hcl (stp n w[j] (atN n (w.take j))) (by have := stp_len n w[j] (atN n (w.take j)); have := h.len; omega)
        rw [show listZ n.set.length (clo n (inS n.set.length (stp n w[j] (atN n (w.take j))))) = atN n (w.take (j + 1)) from (atN_take hb).symm] at hcl2
        have hs1 := stripNIc n (atN n (w.take j)) w[j]
        have hs2 := stripNI n (stp n w[j] (atN n (w.take j)))
        clear hcl
        have ew : isD w = .sl false (w.map (.int .i64)) := rfl
        repeat' (first | refine wpB_seq ?_ | refine wpB_regionL rfl ?_ | refine wpB_block ?_ | refine wpB_skip ?_ | refine wpB_exit ?_ | refine wpB_ret ?_ | simp (maxSteps := 1000000) (dsimp := false) (disch := omega) only [go_sem, simprocAttr, *] | ((first | refine stepsB_both (fun hh => ?_) (fun hh => ?_) | refine stepsXB_both (fun hh => ?_) (fun hh => ?_)) <;> (try simp (maxSteps := 1000000) (dsimp := false) (disch := omega) only [go_sem, simprocAttr, decide_eq_true_eq, decide_eq_false_iff_not, Bool.not_eq_true, Bool.not_eq_false, Bool.not_eq_true', Bool.not_eq_false', Int.not_lt, Int.not_le, bne_iff_ne, bne_eq_false_iff_eq, beq_iff_eq, beq_eq_false_iff_ne, ne_eq, Int.ofNat_inj, Int.natCast_inj] at hh) <;> (try (exfalso; omega))) | (refine wpB_cond (by simp (maxSteps := 1000000) (dsimp := false) (disch := omega) only [go_sem, simprocAttr, *]; exact rfl) (fun hh => ?_) (fun hh => ?_) <;> (try simp (maxSteps := 1000000) (dsimp := false) (disch := omega) only [go_sem, simprocAttr, decide_eq_true_eq, decide_eq_false_iff_not, Bool.not_eq_true, Bool.not_eq_false, Bool.not_eq_true', Bool.not_eq_false', Int.not_lt, Int.not_le, bne_iff_ne, bne_eq_false_iff_eq, beq_iff_eq, beq_eq_false_iff_ne, ne_eq, Int.ofNat_inj, Int.natCast_inj] at hh) <;> (try (exfalso; omega))))
        refine wpB_regionXL (prs := []) (by kernel_rfl) rfl (by kernel_rfl) ?_
        simp (maxSteps := 1000000) (dsimp := false) (disch := omega) only [go_sem, simprocAttr, *]
        refine ⟨fun _ => rfl, evB_plain bo33 rfl rfl hs1 hst ?_⟩
        simp (maxSteps := 1000000) (dsimp := false) (disch := omega) only [go_sem, simprocAttr, *]
        refine ⟨fun _ => rfl, evB_plain bo35 rfl rfl hs2 hcl2 ?_⟩
        repeat' (first | refine wpB_seq ?_ | refine wpB_regionL rfl ?_ | refine wpB_block ?_ | refine wpB_skip ?_ | refine wpB_exit ?_ | refine wpB_ret ?_ | simp (maxSteps := 1000000) (dsimp := false) (disch := omega) only [go_sem, simprocAttr, *] | ((first | refine stepsB_both (fun hh => ?_) (fun hh => ?_) | refine stepsXB_both (fun hh => ?_) (fun hh => ?_)) <;> (try simp (maxSteps := 1000000) (dsimp := false) (disch := omega) only [go_sem, simprocAttr, decide_eq_true_eq, decide_eq_false_iff_not, Bool.not_eq_true, Bool.not_eq_false, Bool.not_eq_true', Bool.not_eq_false', Int.not_lt, Int.not_le, bne_iff_ne, bne_eq_false_iff_eq, beq_iff_eq, beq_eq_false_iff_ne, ne_eq, Int.ofNat_inj, Int.natCast_inj] at hh) <;> (try (exfalso; omega))) | (refine wpB_cond (by simp (maxSteps := 1000000) (dsimp := false) (disch := omega) only [go_sem, simprocAttr, *]; exact rfl) (fun hh => ?_) (fun hh => ?_) <;> (try simp (maxSteps := 1000000) (dsimp := false) (disch := omega) only [go_sem, simprocAttr, decide_eq_true_eq, decide_eq_false_iff_not, Bool.not_eq_true, Bool.not_eq_false, Bool.not_eq_true', Bool.not_eq_false', Int.not_lt, Int.not_le, bne_iff_ne, bne_eq_false_iff_eq, beq_iff_eq, beq_eq_false_iff_ne, ne_eq, Int.ofNat_inj, Int.natCast_inj] at hh) <;> (try (exfalso; omega))))
        refine hR _ _ ⟨j + 1, by omega, h0, by simp (maxSteps := 1000000) (dsimp := false) (disch := omega) only [go_sem, simprocAttr, *], by simp (maxSteps := 1000000) (dsimp := false) (disch := omega) only [go_sem, simprocAttr, *], by simp (maxSteps := 1000000) (dsimp := false) (disch := omega) only [go_sem, simprocAttr, *], by simp (maxSteps := 1000000) (dsimp := false) (disch := omega) only [go_sem, simprocAttr, *], by simp (maxSteps := 1000000) (dsimp := false) (disch := omega) only [go_sem, simprocAttr, *]⟩ ?_
        simp (maxSteps := 1000000) (dsimp := false) (disch := omega) only [go_sem, simprocAttr, *, natOf_int]
      · repeat' (first | refine wpB_seq ?_ | refine wpB_regionL rfl ?_ | refine wpB_block ?_ | refine wpB_skip ?_ | refine wpB_exit ?_ | refine wpB_ret ?_ | simp (maxSteps := 1000000) (dsimp := false) (disch := omega) only [go_sem, simprocAttr, *] | ((first | refine stepsB_both (fun hh => ?_) (fun hh => ?_) | refine stepsXB_both (fun hh => ?_) (fun hh => ?_)) <;> (try simp (maxSteps := 1000000) (dsimp := false) (disch := omega) only [go_sem, simprocAttr, decide_eq_true_eq, decide_eq_false_iff_not, Bool.not_eq_true, Bool.not_eq_false, Bool.not_eq_true', Bool.not_eq_false', Int.not_lt, Int.not_le, bne_iff_ne, bne_eq_false_iff_eq, beq_iff_eq, beq_eq_false_iff_ne, ne_eq, Int.ofNat_inj, Int.natCast_inj] at hh) <;> (try (exfalso; omega))) | (refine wpB_cond (by simp (maxSteps := 1000000) (dsimp := false) (disch := omega) only [go_sem, simprocAttr, *]; exact rfl) (fun hh => ?_) (fun hh => ?_) <;> (try simp (maxSteps := 1000000) (dsimp := false) (disch := omega) only [go_sem, simprocAttr, decide_eq_true_eq, decide_eq_false_iff_not, Bool.not_eq_true, Bool.not_eq_false, Bool.not_eq_true', Bool.not_eq_false', Int.not_lt, Int.not_le, bne_iff_ne, bne_eq_false_iff_eq, beq_iff_eq, beq_eq_false_iff_ne, ne_eq, Int.ofNat_inj, Int.natCast_inj] at hh) <;> (try (exfalso; omega))))
        obtain ⟨l, hl⟩ := atN_clos n w
        have hs1 := stripNI n (atN n w)
        rw [List.take_of_length_le (by omega)]
        refine evB_plain bo36 rfl rfl hs1 (ends_ok' n (atN n w) hr (fun s hs => clos_in (l := l) (by rw [← hl]; exact hs)) (by have := hal w; omega)) ?_
        repeat' (first | refine wpB_seq ?_ | refine wpB_regionL rfl ?_ | refine wpB_block ?_ | refine wpB_skip ?_ | refine wpB_exit ?_ | refine wpB_ret ?_ | simp (maxSteps := 1000000) (dsimp := false) (disch := omega) only [go_sem, simprocAttr, *] | ((first | refine stepsB_both (fun hh => ?_) (fun hh => ?_) | refine stepsXB_both (fun hh => ?_) (fun hh => ?_)) <;> (try simp (maxSteps := 1000000) (dsimp := false) (disch := omega) only [go_sem, simprocAttr, decide_eq_true_eq, decide_eq_false_iff_not, Bool.not_eq_true, Bool.not_eq_false, Bool.not_eq_true', Bool.not_eq_false', Int.not_lt, Int.not_le, bne_iff_ne, bne_eq_false_iff_eq, beq_iff_eq, beq_eq_false_iff_ne, ne_eq, Int.ofNat_inj, Int.natCast_inj] at hh) <;> (try (exfalso; omega))) | (refine wpB_cond (by simp (maxSteps := 1000000) (dsimp := false) (disch := omega) only [go_sem, simprocAttr, *]; exact rfl) (fun hh => ?_) (fun hh => ?_) <;> (try simp (maxSteps := 1000000) (dsimp := false) (disch := omega) only [go_sem, simprocAttr, decide_eq_true_eq, decide_eq_false_iff_not, Bool.not_eq_true, Bool.not_eq_false, Bool.not_eq_true', Bool.not_eq_false', Int.not_lt, Int.not_le, bne_iff_ne, bne_eq_false_iff_eq, beq_iff_eq, beq_eq_false_iff_ne, ne_eq, Int.ofNat_inj, Int.natCast_inj] at hh) <;> (try (exfalso; omega))))
end Go.Proofs.W
end
/- The law on walks of machines. -/
section
set_option maxHeartbeats 4000000
set_option linter.unusedVariables false
set_option linter.unusedSimpArgs false
namespace Go.Proofs.W
open Go Vm Go.Proofs.Zs06

theorem clo_dec (n : Nfa) (k : Nat) (l : List Int) : clo n (fun s => s < k ∧ decide ((s : Int) ∈ l) = true) = clo n (inS k l) := by
  congr 1
  funext s
  simp [inS]
theorem clos_tab (n : Nfa) (q : Nat → Bool) : listZ n.set.length (clo n fun s => s < n.set.length ∧ q s = true) = clos n (listZ n.set.length q) := by
  unfold clos
  congr 2
  funext s
  simp only [inS, mem_listZ, eq_iff_iff]
  exact ⟨fun h => ⟨h.1, s, h.1, h.2, rfl⟩, fun ⟨h1, i, h2, h3, h4⟩ => ⟨h1, by rw [show s = i by omega]; exact h3⟩⟩
theorem stp_tab (n : Nfa) (c : Int) (p : Nat → Bool) : stp n c (listZ n.set.length p) = listZ n.set.length (stepTo n c p n.set.length) := by
  unfold stp
  congr 1
  funext t
  unfold stepTo
  refine Bool.eq_iff_iff.2 ?_
  simp only [List.any_eq_true, List.mem_range, Bool.and_eq_true, decide_eq_true_eq, mem_listZ]
  constructor
  · rintro ⟨i, h1, ⟨⟨j, h2, h3, h4⟩, h5⟩, h6⟩
    obtain rfl : i = j := by omega
    exact ⟨i, h1, ⟨h3, h5⟩, h6⟩
  · rintro ⟨i, h1, ⟨h2, h3⟩, h4⟩
    exact ⟨i, h1, ⟨⟨i, h1, h2, rfl⟩, h3⟩, h4⟩
theorem stripT (k : Nat) (p : Nat → Bool) : stripL [tD k p] = some [tD k p] := strip1 (strip_tD k p)
theorem stripNT (n : Nfa) (k : Nat) (p : Nat → Bool) : stripL [nfaD n, tD k p] = some [nfaD n, tD k p] := strip2 (strip_nfa n) (strip_tD k p)
theorem stripNTc (n : Nfa) (k : Nat) (p : Nat → Bool) (c : Int) : stripL [nfaD n, tD k p, .int .i64 c] = some [nfaD n, tD k p, .int .i64 c] := by simp [stripL, strip_nfa, strip_tD, strip]
theorem stripIk (l : List Int) (k : Int) : stripL [isD l, .int .i64 k] = some [isD l, .int .i64 k] := strip2 (strip_is l) rfl
theorem stripII (a b : List Int) : stripL [isD a, isD b] = some [isD a, isD b] := strip2 (strip_is a) (strip_is b)
theorem iss {l l' : List D} (h : stripL l = some l') : (stripL l).isSome = true := by rw [h]; rfl
theorem walks_law (n : Nfa) (st : List Int) (c : Int) (w : List Int) (hty : tyN n) : Yes 4 [nfaD n, isD st, .int .i64 c, isD w] := by
  have est : isD st = .sl false (st.map (.int .i64)) := rfl
  have ew : isD w = .sl false (w.map (.int .i64)) := rfl
  have a1 := nfa_noTup n
  have a2 : (nfaD n).cells = [.sl false (n.free.map isD), .sl false (n.set.map (.int .u16)), isD n.to, isD n.rule] := rfl
  have a3 := nfa_aggQ n
  refine evF_inB (n := 137) (rs := [.tmp 8]) Try.func4 rfl rfl rfl rfl rfl rfl ?_
  repeat' (first | refine wpB_seq ?_ | refine wpB_regionL rfl ?_ | refine wpB_block ?_ | refine wpB_skip ?_ | refine wpB_exit ?_ | refine wpB_ret ?_ | simp (maxSteps := 1000000) (dsimp := false) (disch := omega) only [go_sem, simprocAttr, *] | ((first | refine stepsB_both (fun hh => ?_) (fun hh => ?_) | refine stepsXB_both (fun hh => ?_) (fun hh => ?_)) <;> (try simp (maxSteps := 1000000) (dsimp := false) (disch := omega) only [go_sem, simprocAttr, decide_eq_true_eq, decide_eq_false_iff_not, Bool.not_eq_true, Bool.not_eq_false, Bool.not_eq_true', Bool.not_eq_false', Int.not_lt, Int.not_le, bne_iff_ne, bne_eq_false_iff_eq, beq_iff_eq, beq_eq_false_iff_ne, ne_eq, Int.ofNat_inj, Int.natCast_inj] at hh) <;> (try (exfalso; omega))) | (refine wpB_cond (by simp (maxSteps := 1000000) (dsimp := false) (disch := omega) only [go_sem, simprocAttr, *]; exact rfl) (fun hh => ?_) (fun hh => ?_) <;> (try simp (maxSteps := 1000000) (dsimp := false) (disch := omega) only [go_sem, simprocAttr, decide_eq_true_eq, decide_eq_false_iff_not, Bool.not_eq_true, Bool.not_eq_false, Bool.not_eq_true', Bool.not_eq_false', Int.not_lt, Int.not_le, bne_iff_ne, bne_eq_false_iff_eq, beq_iff_eq, beq_eq_false_iff_ne, ne_eq, Int.ofNat_inj, Int.natCast_inj] at hh) <;> (try (exfalso; omega))))
  refine evB_plain bo7 rfl rfl rfl alive_ok ?_
  repeat' (first | refine wpB_seq ?_ | refine wpB_regionL rfl ?_ | refine wpB_block ?_ | refine wpB_skip ?_ | refine wpB_exit ?_ | refine wpB_ret ?_ | simp (maxSteps := 1000000) (dsimp := false) (disch := omega) only [go_sem, simprocAttr, *] | ((first | refine stepsB_both (fun hh => ?_) (fun hh => ?_) | refine stepsXB_both (fun hh => ?_) (fun hh => ?_)) <;> (try simp (maxSteps := 1000000) (dsimp := false) (disch := omega) only [go_sem, simprocAttr, decide_eq_true_eq, decide_eq_false_iff_not, Bool.not_eq_true, Bool.not_eq_false, Bool.not_eq_true', Bool.not_eq_false', Int.not_lt, Int.not_le, bne_iff_ne, bne_eq_false_iff_eq, beq_iff_eq, beq_eq_false_iff_ne, ne_eq, Int.ofNat_inj, Int.natCast_inj] at hh) <;> (try (exfalso; omega))) | (refine wpB_cond (by simp (maxSteps := 1000000) (dsimp := false) (disch := omega) only [go_sem, simprocAttr, *]; exact rfl) (fun hh => ?_) (fun hh => ?_) <;> (try simp (maxSteps := 1000000) (dsimp := false) (disch := omega) only [go_sem, simprocAttr, decide_eq_true_eq, decide_eq_false_iff_not, Bool.not_eq_true, Bool.not_eq_false, Bool.not_eq_true', Bool.not_eq_false', Int.not_lt, Int.not_le, bne_iff_ne, bne_eq_false_iff_eq, beq_iff_eq, beq_eq_false_iff_ne, ne_eq, Int.ofNat_inj, Int.natCast_inj] at hh) <;> (try (exfalso; omega))))
  refine wpB_loop (fun e H => ∃ (j : Nat), j ≤ n.free.length ∧ H = [Ob.arr [nfaD n]] ∧ e 1 = isD st ∧ e 2 = .int .i64 c ∧ e 3 = isD w ∧ e 4 = .ptr 0 0 0 ∧ e 9 = .int .i64 j ∧ ∀ l ∈ n.free.take j, l.length ≤ 50) (fun e H => n.free.length - natOf (e 9)) ?_ ?_
  · exact ⟨0, by omega, by simp (maxSteps := 1000000) (dsimp := false) (disch := omega) only [go_sem, simprocAttr, *], by simp (maxSteps := 1000000) (dsimp := false) (disch := omega) only [go_sem, simprocAttr, *], by simp (maxSteps := 1000000) (dsimp := false) (disch := omega) only [go_sem, simprocAttr, *], by simp (maxSteps := 1000000) (dsimp := false) (disch := omega) only [go_sem, simprocAttr, *], by simp (maxSteps := 1000000) (dsimp := false) (disch := omega) only [go_sem, simprocAttr, *], by simp (maxSteps := 1000000) (dsimp := false) (disch := omega) only [go_sem, simprocAttr, *], by simp⟩
  · rintro e H ⟨j, hj, rfl, e1, e2, e3, e4, e9, hl⟩ R hR
    by_cases hb : j < n.free.length
    · have ef : isD n.free[j] = .sl false (n.free[j].map (.int .i64)) := rfl
      repeat' (first | refine wpB_seq ?_ | refine wpB_regionL rfl ?_ | refine wpB_block ?_ | refine wpB_skip ?_ | refine wpB_exit ?_ | refine wpB_ret ?_ | simp (maxSteps := 1000000) (dsimp := false) (disch := omega) only [go_sem, simprocAttr, *] | ((first | refine stepsB_both (fun hh => ?_) (fun hh => ?_) | refine stepsXB_both (fun hh => ?_) (fun hh => ?_)) <;> (try simp (maxSteps := 1000000) (dsimp := false) (disch := omega) only [go_sem, simprocAttr, decide_eq_true_eq, decide_eq_false_iff_not, Bool.not_eq_true, Bool.not_eq_false, Bool.not_eq_true', Bool.not_eq_false', Int.not_lt, Int.not_le, bne_iff_ne, bne_eq_false_iff_eq, beq_iff_eq, beq_eq_false_iff_ne, ne_eq, Int.ofNat_inj, Int.natCast_inj] at hh) <;> (try (exfalso; omega))) | (refine wpB_cond (by simp (maxSteps := 1000000) (dsimp := false) (disch := omega) only [go_sem, simprocAttr, *]; exact rfl) (fun hh => ?_) (fun hh => ?_) <;> (try simp (maxSteps := 1000000) (dsimp := false) (disch := omega) only [go_sem, simprocAttr, decide_eq_true_eq, decide_eq_false_iff_not, Bool.not_eq_true, Bool.not_eq_false, Bool.not_eq_true', Bool.not_eq_false', Int.not_lt, Int.not_le, bne_iff_ne, bne_eq_false_iff_eq, beq_iff_eq, beq_eq_false_iff_ne, ne_eq, Int.ofNat_inj, Int.natCast_inj] at hh) <;> (try (exfalso; omega))))
      · refine hR _ _ ⟨j + 1, by omega, by simp (maxSteps := 1000000) (dsimp := false) (disch := omega) only [go_sem, simprocAttr, *], by simp (maxSteps := 1000000) (dsimp := false) (disch := omega) only [go_sem, simprocAttr, *], by simp (maxSteps := 1000000) (dsimp := false) (disch := omega) only [go_sem, simprocAttr, *], by simp (maxSteps := 1000000) (dsimp := false) (disch := omega) only [go_sem, simprocAttr, *], by simp (maxSteps := 1000000) (dsimp := false) (disch := omega) only [go_sem, simprocAttr, *], by simp (maxSteps := 1000000) (dsimp := false) (disch := omega) only [go_sem, simprocAttr, *], fun l hl2 => ?_⟩ ?_
        · rw [take_succ' hb, List.mem_append] at hl2
          rcases hl2 with h | h
          · exact hl l h
          · have : l = n.free[j] := by simpa using h
            subst this
            omega
        · simp (maxSteps := 1000000) (dsimp := false) (disch := omega) only [go_sem, simprocAttr, *, natOf_int]
    · rw [List.take_of_length_le (by omega)] at hl
      have hok : OkN n := ⟨by omega, fun l h => by have := hl l h; omega⟩
      repeat' (first | refine wpB_seq ?_ | refine wpB_regionL rfl ?_ | refine wpB_block ?_ | refine wpB_skip ?_ | refine wpB_exit ?_ | refine wpB_ret ?_ | simp (maxSteps := 1000000) (dsimp := false) (disch := omega) only [go_sem, simprocAttr, *] | ((first | refine stepsB_both (fun hh => ?_) (fun hh => ?_) | refine stepsXB_both (fun hh => ?_) (fun hh => ?_)) <;> (try simp (maxSteps := 1000000) (dsimp := false) (disch := omega) only [go_sem, simprocAttr, decide_eq_true_eq, decide_eq_false_iff_not, Bool.not_eq_true, Bool.not_eq_false, Bool.not_eq_true', Bool.not_eq_false', Int.not_lt, Int.not_le, bne_iff_ne, bne_eq_false_iff_eq, beq_iff_eq, beq_eq_false_iff_ne, ne_eq, Int.ofNat_inj, Int.natCast_inj] at hh) <;> (try (exfalso; omega))) | (refine wpB_cond (by simp (maxSteps := 1000000) (dsimp := false) (disch := omega) only [go_sem, simprocAttr, *]; exact rfl) (fun hh => ?_) (fun hh => ?_) <;> (try simp (maxSteps := 1000000) (dsimp := false) (disch := omega) only [go_sem, simprocAttr, decide_eq_true_eq, decide_eq_false_iff_not, Bool.not_eq_true, Bool.not_eq_false, Bool.not_eq_true', Bool.not_eq_false', Int.not_lt, Int.not_le, bne_iff_ne, bne_eq_false_iff_eq, beq_iff_eq, beq_eq_false_iff_ne, ne_eq, Int.ofNat_inj, Int.natCast_inj] at hh) <;> (try (exfalso; omega))))
      refine evB_plain bo14 rfl rfl (stripN n) (ref_nright_ok n (by omega) (fun l h => by have := hl l h; omega) hty) ?_
      have hc1 := close_ok n st hok (by omega)
      have hc2 := stepc_ok n st c hok (by omega)
      have hc3 := match_ok n w hok (by omega)
      have hRi := nright_ok n (by omega) hok.fl
      cases hr : rightN n with
      | false =>
        rw [hr] at hRi
        simp only [closeN, stepN, matchN, hr, Bool.false_eq_true, if_false] at hc1 hc2 hc3
        have e0 : isD [] = .sl false [] := rfl
        repeat' (first | refine wpB_seq ?_ | refine wpB_regionL rfl ?_ | refine wpB_block ?_ | refine wpB_skip ?_ | refine wpB_exit ?_ | refine wpB_ret ?_ | simp (maxSteps := 1000000) (dsimp := false) (disch := omega) only [go_sem, simprocAttr, *] | ((first | refine stepsB_both (fun hh => ?_) (fun hh => ?_) | refine stepsXB_both (fun hh => ?_) (fun hh => ?_)) <;> (try simp (maxSteps := 1000000) (dsimp := false) (disch := omega) only [go_sem, simprocAttr, decide_eq_true_eq, decide_eq_false_iff_not, Bool.not_eq_true, Bool.not_eq_false, Bool.not_eq_true', Bool.not_eq_false', Int.not_lt, Int.not_le, bne_iff_ne, bne_eq_false_iff_eq, beq_iff_eq, beq_eq_false_iff_ne, ne_eq, Int.ofNat_inj, Int.natCast_inj] at hh) <;> (try (exfalso; omega))) | (refine wpB_cond (by simp (maxSteps := 1000000) (dsimp := false) (disch := omega) only [go_sem, simprocAttr, *]; exact rfl) (fun hh => ?_) (fun hh => ?_) <;> (try simp (maxSteps := 1000000) (dsimp := false) (disch := omega) only [go_sem, simprocAttr, decide_eq_true_eq, decide_eq_false_iff_not, Bool.not_eq_true, Bool.not_eq_false, Bool.not_eq_true', Bool.not_eq_false', Int.not_lt, Int.not_le, bne_iff_ne, bne_eq_false_iff_eq, beq_iff_eq, beq_eq_false_iff_ne, ne_eq, Int.ofNat_inj, Int.natCast_inj] at hh) <;> (try (exfalso; omega))))
        refine evB_plain bo15 rfl rfl (stripN n) hRi ?_
        repeat' (first | refine wpB_seq ?_ | refine wpB_regionL rfl ?_ | refine wpB_block ?_ | refine wpB_skip ?_ | refine wpB_exit ?_ | refine wpB_ret ?_ | simp (maxSteps := 1000000) (dsimp := false) (disch := omega) only [go_sem, simprocAttr, *] | ((first | refine stepsB_both (fun hh => ?_) (fun hh => ?_) | refine stepsXB_both (fun hh => ?_) (fun hh => ?_)) <;> (try simp (maxSteps := 1000000) (dsimp := false) (disch := omega) only [go_sem, simprocAttr, decide_eq_true_eq, decide_eq_false_iff_not, Bool.not_eq_true, Bool.not_eq_false, Bool.not_eq_true', Bool.not_eq_false', Int.not_lt, Int.not_le, bne_iff_ne, bne_eq_false_iff_eq, beq_iff_eq, beq_eq_false_iff_ne, ne_eq, Int.ofNat_inj, Int.natCast_inj] at hh) <;> (try (exfalso; omega))) | (refine wpB_cond (by simp (maxSteps := 1000000) (dsimp := false) (disch := omega) only [go_sem, simprocAttr, *]; exact rfl) (fun hh => ?_) (fun hh => ?_) <;> (try simp (maxSteps := 1000000) (dsimp := false) (disch := omega) only [go_sem, simprocAttr, decide_eq_true_eq, decide_eq_false_iff_not, Bool.not_eq_true, Bool.not_eq_false, Bool.not_eq_true', Bool.not_eq_false', Int.not_lt, Int.not_le, bne_iff_ne, bne_eq_false_iff_eq, beq_iff_eq, beq_eq_false_iff_ne, ne_eq, Int.ofNat_inj, Int.natCast_inj] at hh) <;> (try (exfalso; omega))))
        refine evB_plain bo16 rfl rfl (stripNI n st) hc1 ?_
        repeat' (first | refine wpB_seq ?_ | refine wpB_regionL rfl ?_ | refine wpB_block ?_ | refine wpB_skip ?_ | refine wpB_exit ?_ | refine wpB_ret ?_ | simp (maxSteps := 1000000) (dsimp := false) (disch := omega) only [go_sem, simprocAttr, *] | ((first | refine stepsB_both (fun hh => ?_) (fun hh => ?_) | refine stepsXB_both (fun hh => ?_) (fun hh => ?_)) <;> (try simp (maxSteps := 1000000) (dsimp := false) (disch := omega) only [go_sem, simprocAttr, decide_eq_true_eq, decide_eq_false_iff_not, Bool.not_eq_true, Bool.not_eq_false, Bool.not_eq_true', Bool.not_eq_false', Int.not_lt, Int.not_le, bne_iff_ne, bne_eq_false_iff_eq, beq_iff_eq, beq_eq_false_iff_ne, ne_eq, Int.ofNat_inj, Int.natCast_inj] at hh) <;> (try (exfalso; omega))) | (refine wpB_cond (by simp (maxSteps := 1000000) (dsimp := false) (disch := omega) only [go_sem, simprocAttr, *]; exact rfl) (fun hh => ?_) (fun hh => ?_) <;> (try simp (maxSteps := 1000000) (dsimp := false) (disch := omega) only [go_sem, simprocAttr, decide_eq_true_eq, decide_eq_false_iff_not, Bool.not_eq_true, Bool.not_eq_false, Bool.not_eq_true', Bool.not_eq_false', Int.not_lt, Int.not_le, bne_iff_ne, bne_eq_false_iff_eq, beq_iff_eq, beq_eq_false_iff_ne, ne_eq, Int.ofNat_inj, Int.natCast_inj] at hh) <;> (try (exfalso; omega))))
        refine evB_plain bo12 rfl rfl (stripNIc n st c) hc2 ?_
        repeat' (first | refine wpB_seq ?_ | refine wpB_regionL rfl ?_ | refine wpB_block ?_ | refine wpB_skip ?_ | refine wpB_exit ?_ | refine wpB_ret ?_ | simp (maxSteps := 1000000) (dsimp := false) (disch := omega) only [go_sem, simprocAttr, *] | ((first | refine stepsB_both (fun hh => ?_) (fun hh => ?_) | refine stepsXB_both (fun hh => ?_) (fun hh => ?_)) <;> (try simp (maxSteps := 1000000) (dsimp := false) (disch := omega) only [go_sem, simprocAttr, decide_eq_true_eq, decide_eq_false_iff_not, Bool.not_eq_true, Bool.not_eq_false, Bool.not_eq_true', Bool.not_eq_false', Int.not_lt, Int.not_le, bne_iff_ne, bne_eq_false_iff_eq, beq_iff_eq, beq_eq_false_iff_ne, ne_eq, Int.ofNat_inj, Int.natCast_inj] at hh) <;> (try (exfalso; omega))) | (refine wpB_cond (by simp (maxSteps := 1000000) (dsimp := false) (disch := omega) only [go_sem, simprocAttr, *]; exact rfl) (fun hh => ?_) (fun hh => ?_) <;> (try simp (maxSteps := 1000000) (dsimp := false) (disch := omega) only [go_sem, simprocAttr, decide_eq_true_eq, decide_eq_false_iff_not, Bool.not_eq_true, Bool.not_eq_false, Bool.not_eq_true', Bool.not_eq_false', Int.not_lt, Int.not_le, bne_iff_ne, bne_eq_false_iff_eq, beq_iff_eq, beq_eq_false_iff_ne, ne_eq, Int.ofNat_inj, Int.natCast_inj] at hh) <;> (try (exfalso; omega))))
        refine evB_plain bo17 rfl rfl (stripNI n w) hc3 ?_
        repeat' (first | refine wpB_seq ?_ | refine wpB_regionL rfl ?_ | refine wpB_block ?_ | refine wpB_skip ?_ | refine wpB_exit ?_ | refine wpB_ret ?_ | simp (maxSteps := 1000000) (dsimp := false) (disch := omega) only [go_sem, simprocAttr, *] | ((first | refine stepsB_both (fun hh => ?_) (fun hh => ?_) | refine stepsXB_both (fun hh => ?_) (fun hh => ?_)) <;> (try simp (maxSteps := 1000000) (dsimp := false) (disch := omega) only [go_sem, simprocAttr, decide_eq_true_eq, decide_eq_false_iff_not, Bool.not_eq_true, Bool.not_eq_false, Bool.not_eq_true', Bool.not_eq_false', Int.not_lt, Int.not_le, bne_iff_ne, bne_eq_false_iff_eq, beq_iff_eq, beq_eq_false_iff_ne, ne_eq, Int.ofNat_inj, Int.natCast_inj] at hh) <;> (try (exfalso; omega))) | (refine wpB_cond (by simp (maxSteps := 1000000) (dsimp := false) (disch := omega) only [go_sem, simprocAttr, *]; exact rfl) (fun hh => ?_) (fun hh => ?_) <;> (try simp (maxSteps := 1000000) (dsimp := false) (disch := omega) only [go_sem, simprocAttr, decide_eq_true_eq, decide_eq_false_iff_not, Bool.not_eq_true, Bool.not_eq_false, Bool.not_eq_true', Bool.not_eq_false', Int.not_lt, Int.not_le, bne_iff_ne, bne_eq_false_iff_eq, beq_iff_eq, beq_eq_false_iff_ne, ne_eq, Int.ofNat_inj, Int.natCast_inj] at hh) <;> (try (exfalso; omega))))
      | true =>
        rw [hr] at hRi
        simp only [closeN, stepN, matchN, hr, if_true] at hc1 hc2 hc3
        have hrr := right_row hr
        have hk := hrr.1
        have hk2 := hrr.2.1
        have hT := table_ok st n.set.length (by omega) (by omega) (by omega)
        repeat' (first | refine wpB_seq ?_ | refine wpB_regionL rfl ?_ | refine wpB_block ?_ | refine wpB_skip ?_ | refine wpB_exit ?_ | refine wpB_ret ?_ | simp (maxSteps := 1000000) (dsimp := false) (disch := omega) only [go_sem, simprocAttr, *] | ((first | refine stepsB_both (fun hh => ?_) (fun hh => ?_) | refine stepsXB_both (fun hh => ?_) (fun hh => ?_)) <;> (try simp (maxSteps := 1000000) (dsimp := false) (disch := omega) only [go_sem, simprocAttr, decide_eq_true_eq, decide_eq_false_iff_not, Bool.not_eq_true, Bool.not_eq_false, Bool.not_eq_true', Bool.not_eq_false', Int.not_lt, Int.not_le, bne_iff_ne, bne_eq_false_iff_eq, beq_iff_eq, beq_eq_false_iff_ne, ne_eq, Int.ofNat_inj, Int.natCast_inj] at hh) <;> (try (exfalso; omega))) | (refine wpB_cond (by simp (maxSteps := 1000000) (dsimp := false) (disch := omega) only [go_sem, simprocAttr, *]; exact rfl) (fun hh => ?_) (fun hh => ?_) <;> (try simp (maxSteps := 1000000) (dsimp := false) (disch := omega) only [go_sem, simprocAttr, decide_eq_true_eq, decide_eq_false_iff_not, Bool.not_eq_true, Bool.not_eq_false, Bool.not_eq_true', Bool.not_eq_false', Int.not_lt, Int.not_le, bne_iff_ne, bne_eq_false_iff_eq, beq_iff_eq, beq_eq_false_iff_ne, ne_eq, Int.ofNat_inj, Int.natCast_inj] at hh) <;> (try (exfalso; omega))))
        refine evB_plain bo18 rfl rfl (stripIk st _) hT ?_
        repeat' (first | refine wpB_seq ?_ | refine wpB_regionL rfl ?_ | refine wpB_block ?_ | refine wpB_skip ?_ | refine wpB_exit ?_ | refine wpB_ret ?_ | simp (maxSteps := 1000000) (dsimp := false) (disch := omega) only [go_sem, simprocAttr, *] | ((first | refine stepsB_both (fun hh => ?_) (fun hh => ?_) | refine stepsXB_both (fun hh => ?_) (fun hh => ?_)) <;> (try simp (maxSteps := 1000000) (dsimp := false) (disch := omega) only [go_sem, simprocAttr, decide_eq_true_eq, decide_eq_false_iff_not, Bool.not_eq_true, Bool.not_eq_false, Bool.not_eq_true', Bool.not_eq_false', Int.not_lt, Int.not_le, bne_iff_ne, bne_eq_false_iff_eq, beq_iff_eq, beq_eq_false_iff_ne, ne_eq, Int.ofNat_inj, Int.natCast_inj] at hh) <;> (try (exfalso; omega))) | (refine wpB_cond (by simp (maxSteps := 1000000) (dsimp := false) (disch := omega) only [go_sem, simprocAttr, *]; exact rfl) (fun hh => ?_) (fun hh => ?_) <;> (try simp (maxSteps := 1000000) (dsimp := false) (disch := omega) only [go_sem, simprocAttr, decide_eq_true_eq, decide_eq_false_iff_not, Bool.not_eq_true, Bool.not_eq_false, Bool.not_eq_true', Bool.not_eq_false', Int.not_lt, Int.not_le, bne_iff_ne, bne_eq_false_iff_eq, beq_iff_eq, beq_eq_false_iff_ne, ne_eq, Int.ofNat_inj, Int.natCast_inj] at hh) <;> (try (exfalso; omega))))
        generalize hp0 : (fun s : Nat => decide ((s : Int) ∈ st)) = p0
        have hC := closeR_ok n p0 hr hok.fl
        have hS := stepR_ok n c p0 hr
        have hcp : clo n (fun s => s < n.set.length ∧ p0 s = true) = clo n (inS n.set.length st) := by rw [← hp0]; exact clo_dec n _ st
        have hsp : listZ n.set.length (stepTo n c p0 n.set.length) = stp n c st := by rw [← hp0]; rfl
        rw [hcp] at hC
        have hL1 := list_ok n.set.length (clo n (inS n.set.length st)) (by omega)
        have hL2 := list_ok n.set.length (stepTo n c p0 n.set.length) (by omega)
        rw [hsp] at hL2
        rw [show listZ n.set.length (clo n (inS n.set.length st)) = clos n st from rfl] at hL1
        have hI1 := ints_ok (clos n st) (clos n st) (by have := clos_len n st; omega)
        have hI2 := ints_ok (stp n c st) (stp n c st) (by have := stp_len n c st; omega)
        simp only [beq_self_eq_true] at hI1 hI2
        refine wpB_regionXL (prs := []) (by kernel_rfl) rfl (by kernel_rfl) ?_
        simp (maxSteps := 1000000) (dsimp := false) (disch := omega) only [go_sem, simprocAttr, *]
        refine ⟨fun _ => iss (stripN n), evB_plain bo15 rfl rfl (stripN n) hRi ?_⟩
        simp (maxSteps := 1000000) (dsimp := false) (disch := omega) only [go_sem, simprocAttr, *]
        refine ⟨fun _ => iss (stripNI n st), evB_plain bo16 rfl rfl (stripNI n st) hc1 ?_⟩
        simp (maxSteps := 1000000) (dsimp := false) (disch := omega) only [go_sem, simprocAttr, *]
        refine ⟨fun _ => iss (stripNT n _ p0), evB_plain bo20 rfl rfl (stripNT n _ p0) hC ?_⟩
        simp (maxSteps := 1000000) (dsimp := false) (disch := omega) only [go_sem, simprocAttr, *]
        refine ⟨fun _ => iss (stripT _ _), evB_plain bo19 rfl rfl (stripT _ _) hL1 ?_⟩
        simp (maxSteps := 1000000) (dsimp := false) (disch := omega) only [go_sem, simprocAttr, *]
        refine ⟨fun _ => iss (stripII _ _), evB_plain bo11 rfl rfl (stripII _ _) hI1 ?_⟩
        simp (maxSteps := 1000000) (dsimp := false) (disch := omega) only [go_sem, simprocAttr, *]
        refine ⟨fun _ => iss (stripNIc n st c), evB_plain bo12 rfl rfl (stripNIc n st c) hc2 ?_⟩
        simp (maxSteps := 1000000) (dsimp := false) (disch := omega) only [go_sem, simprocAttr, *]
        refine ⟨fun _ => iss (stripNTc n _ p0 c), evB_plain bo21 rfl rfl (stripNTc n _ p0 c) hS ?_⟩
        simp (maxSteps := 1000000) (dsimp := false) (disch := omega) only [go_sem, simprocAttr, *]
        refine ⟨fun _ => iss (stripT _ _), evB_plain bo19 rfl rfl (stripT _ _) hL2 ?_⟩
        simp (maxSteps := 1000000) (dsimp := false) (disch := omega) only [go_sem, simprocAttr, *]
        refine ⟨fun _ => iss (stripII _ _), evB_plain bo11 rfl rfl (stripII _ _) hI2 ?_⟩
        repeat' (first | refine wpB_seq ?_ | refine wpB_regionL rfl ?_ | refine wpB_block ?_ | refine wpB_skip ?_ | refine wpB_exit ?_ | refine wpB_ret ?_ | simp (maxSteps := 1000000) (dsimp := false) (disch := omega) only [go_sem, simprocAttr, *] | ((first | refine stepsB_both (fun hh => ?_) (fun hh => ?_) | refine stepsXB_both (fun hh => ?_) (fun hh => ?_)) <;> (try simp (maxSteps := 1000000) (dsimp := false) (disch := omega) only [go_sem, simprocAttr, decide_eq_true_eq, decide_eq_false_iff_not, Bool.not_eq_true, Bool.not_eq_false, Bool.not_eq_true', Bool.not_eq_false', Int.not_lt, Int.not_le, bne_iff_ne, bne_eq_false_iff_eq, beq_iff_eq, beq_eq_false_iff_ne, ne_eq, Int.ofNat_inj, Int.natCast_inj] at hh) <;> (try (exfalso; omega))) | (refine wpB_cond (by simp (maxSteps := 1000000) (dsimp := false) (disch := omega) only [go_sem, simprocAttr, *]; exact rfl) (fun hh => ?_) (fun hh => ?_) <;> (try simp (maxSteps := 1000000) (dsimp := false) (disch := omega) only [go_sem, simprocAttr, decide_eq_true_eq, decide_eq_false_iff_not, Bool.not_eq_true, Bool.not_eq_false, Bool.not_eq_true', Bool.not_eq_false', Int.not_lt, Int.not_le, bne_iff_ne, bne_eq_false_iff_eq, beq_iff_eq, beq_eq_false_iff_ne, ne_eq, Int.ofNat_inj, Int.natCast_inj] at hh) <;> (try (exfalso; omega))))
        clear hI1 hI2 hL1 hL2 hS hC hcp hsp hc1 hc2 hT hRi
        refine wpB_regionXL (prs := []) (by kernel_rfl) rfl (by kernel_rfl) ?_
        simp (maxSteps := 1000000) (dsimp := false) (disch := omega) only [go_sem, simprocAttr, *]
        have hT0 := table_ok [0] n.set.length (by omega) (by omega) (by simp)
        generalize hp1 : (fun s : Nat => decide ((s : Int) ∈ ([0] : List Int))) = p1 at hT0
        have hcp : clo n (fun s => s < n.set.length ∧ p1 s = true) = clo n (inS n.set.length [0]) := by rw [← hp1]; exact clo_dec n _ [0]
        have hC0 := closeR_ok n p1 hr hok.fl
        rw [hcp] at hC0
        have hz0 : isD [0] = .sl false [.int .i64 0] := rfl
        rw [hz0] at hT0
        refine ⟨fun _ => rfl, evB_plain bo18 rfl rfl rfl hT0 ?_⟩
        simp (maxSteps := 1000000) (dsimp := false) (disch := omega) only [go_sem, simprocAttr, *]
        refine ⟨fun _ => iss (stripNT n _ p1), evB_plain bo20 rfl rfl (stripNT n _ p1) hC0 ?_⟩
        repeat' (first | refine wpB_seq ?_ | refine wpB_regionL rfl ?_ | refine wpB_block ?_ | refine wpB_skip ?_ | refine wpB_exit ?_ | refine wpB_ret ?_ | simp (maxSteps := 1000000) (dsimp := false) (disch := omega) only [go_sem, simprocAttr, *] | ((first | refine stepsB_both (fun hh => ?_) (fun hh => ?_) | refine stepsXB_both (fun hh => ?_) (fun hh => ?_)) <;> (try simp (maxSteps := 1000000) (dsimp := false) (disch := omega) only [go_sem, simprocAttr, decide_eq_true_eq, decide_eq_false_iff_not, Bool.not_eq_true, Bool.not_eq_false, Bool.not_eq_true', Bool.not_eq_false', Int.not_lt, Int.not_le, bne_iff_ne, bne_eq_false_iff_eq, beq_iff_eq, beq_eq_false_iff_ne, ne_eq, Int.ofNat_inj, Int.natCast_inj] at hh) <;> (try (exfalso; omega))) | (refine wpB_cond (by simp (maxSteps := 1000000) (dsimp := false) (disch := omega) only [go_sem, simprocAttr, *]; exact rfl) (fun hh => ?_) (fun hh => ?_) <;> (try simp (maxSteps := 1000000) (dsimp := false) (disch := omega) only [go_sem, simprocAttr, decide_eq_true_eq, decide_eq_false_iff_not, Bool.not_eq_true, Bool.not_eq_false, Bool.not_eq_true', Bool.not_eq_false', Int.not_lt, Int.not_le, bne_iff_ne, bne_eq_false_iff_eq, beq_iff_eq, beq_eq_false_iff_ne, ne_eq, Int.ofNat_inj, Int.natCast_inj] at hh) <;> (try (exfalso; omega))))
        clear hT0 hz0 hC0 hcp hp1
        refine wpB_loop (fun e H => ∃ (j : Nat) (p : Nat → Bool), j ≤ w.length ∧ H = [Ob.arr [nfaD n]] ∧ e 3 = isD w ∧ e 4 = .ptr 0 0 0 ∧ e 11 = tD n.set.length p ∧ e 12 = .int .i64 j ∧ listZ n.set.length p = atN n (w.take j)) (fun e H => w.length - natOf (e 12)) ?_ ?_
        · exact ⟨0, _, by omega, by simp (maxSteps := 1000000) (dsimp := false) (disch := omega) only [go_sem, simprocAttr, *], by simp (maxSteps := 1000000) (dsimp := false) (disch := omega) only [go_sem, simprocAttr, *], by simp (maxSteps := 1000000) (dsimp := false) (disch := omega) only [go_sem, simprocAttr, *], by simp (maxSteps := 1000000) (dsimp := false) (disch := omega) only [go_sem, simprocAttr, *], by simp (maxSteps := 1000000) (dsimp := false) (disch := omega) only [go_sem, simprocAttr, *], rfl⟩
        · clear e1 e2 e3 e4 e9 hl hR
          rintro e H ⟨j, p, hj, rfl, e3, e4, e11, e12, hp⟩ R hR
          by_cases hb : j < w.length
          · have hS := stepR_ok n w[j] p hr
            have hC := closeR_ok n (stepTo n w[j] p n.set.length) hr hok.fl
            repeat' (first | refine wpB_seq ?_ | refine wpB_regionL rfl ?_ | refine wpB_block ?_ | refine wpB_skip ?_ | refine wpB_exit ?_ | refine wpB_ret ?_ | simp (maxSteps := 1000000) (dsimp := false) (disch := omega) only [go_sem, simprocAttr, *] | ((first | refine stepsB_both (fun hh => ?_) (fun hh => ?_) | refine stepsXB_both (fun hh => ?_) (fun hh => ?_)) <;> (try simp (maxSteps := 1000000) (dsimp := false) (disch := omega) only [go_sem, simprocAttr, decide_eq_true_eq, decide_eq_false_iff_not, Bool.not_eq_true, Bool.not_eq_false, Bool.not_eq_true', Bool.not_eq_false', Int.not_lt, Int.not_le, bne_iff_ne, bne_eq_false_iff_eq, beq_iff_eq, beq_eq_false_iff_ne, ne_eq, Int.ofNat_inj, Int.natCast_inj] at hh) <;> (try (exfalso; omega))) | (refine wpB_cond (by simp (maxSteps := 1000000) (dsimp := false) (disch := omega) only [go_sem, simprocAttr, *]; exact rfl) (fun hh => ?_) (fun hh => ?_) <;> (try simp (maxSteps := 1000000) (dsimp := false) (disch := omega) only [go_sem, simprocAttr, decide_eq_true_eq, decide_eq_false_iff_not, Bool.not_eq_true, Bool.not_eq_false, Bool.not_eq_true', Bool.not_eq_false', Int.not_lt, Int.not_le, bne_iff_ne, bne_eq_false_iff_eq, beq_iff_eq, beq_eq_false_iff_ne, ne_eq, Int.ofNat_inj, Int.natCast_inj] at hh) <;> (try (exfalso; omega))))
            refine wpB_regionXL (prs := []) (by kernel_rfl) rfl (by kernel_rfl) ?_
            simp (maxSteps := 1000000) (dsimp := false) (disch := omega) only [go_sem, simprocAttr, *]
            refine ⟨fun _ => iss (stripNTc n _ p _), evB_plain bo21 rfl rfl (stripNTc n _ p _) hS ?_⟩
            simp (maxSteps := 1000000) (dsimp := false) (disch := omega) only [go_sem, simprocAttr, *]
            refine ⟨fun _ => iss (stripNT n _ _), evB_plain bo20 rfl rfl (stripNT n _ _) hC ?_⟩
            repeat' (first | refine wpB_seq ?_ | refine wpB_regionL rfl ?_ | refine wpB_block ?_ | refine wpB_skip ?_ | refine wpB_exit ?_ | refine wpB_ret ?_ | simp (maxSteps := 1000000) (dsimp := false) (disch := omega) only [go_sem, simprocAttr, *] | ((first | refine stepsB_both (fun hh => ?_) (fun hh => ?_) | refine stepsXB_both (fun hh => ?_) (fun hh => ?_)) <;> (try simp (maxSteps := 1000000) (dsimp := false) (disch := omega) only [go_sem, simprocAttr, decide_eq_true_eq, decide_eq_false_iff_not, Bool.not_eq_true, Bool.not_eq_false, Bool.not_eq_true', Bool.not_eq_false', Int.not_lt, Int.not_le, bne_iff_ne, bne_eq_false_iff_eq, beq_iff_eq, beq_eq_false_iff_ne, ne_eq, Int.ofNat_inj, Int.natCast_inj] at hh) <;> (try (exfalso; omega))) | (refine wpB_cond (by simp (maxSteps := 1000000) (dsimp := false) (disch := omega) only [go_sem, simprocAttr, *]; exact rfl) (fun hh => ?_) (fun hh => ?_) <;> (try simp (maxSteps := 1000000) (dsimp := false) (disch := omega) only [go_sem, simprocAttr, decide_eq_true_eq, decide_eq_false_iff_not, Bool.not_eq_true, Bool.not_eq_false, Bool.not_eq_true', Bool.not_eq_false', Int.not_lt, Int.not_le, bne_iff_ne, bne_eq_false_iff_eq, beq_iff_eq, beq_eq_false_iff_ne, ne_eq, Int.ofNat_inj, Int.natCast_inj] at hh) <;> (try (exfalso; omega))))
            refine hR _ _ ⟨j + 1, clo n fun s => s < n.set.length ∧ stepTo n w[j] p n.set.length s = true, by omega, by simp (maxSteps := 1000000) (dsimp := false) (disch := omega) only [go_sem, simprocAttr, *], by simp (maxSteps := 1000000) (dsimp := false) (disch := omega) only [go_sem, simprocAttr, *], by simp (maxSteps := 1000000) (dsimp := false) (disch := omega) only [go_sem, simprocAttr, *], by simp (maxSteps := 1000000) (dsimp := false) (disch := omega) only [go_sem, simprocAttr, *], by simp (maxSteps := 1000000) (dsimp := false) (disch := omega) only [go_sem, simprocAttr, *], ?_⟩ ?_
            · rw [clos_tab, ← stp_tab, hp, atN_take hb]
            · simp (maxSteps := 1000000) (dsimp := false) (disch := omega) only [go_sem, simprocAttr, *, natOf_int]
          · have hE := endsR_ok n p hr
            rw [hp, List.take_of_length_le (by omega)] at hE
            repeat' (first | refine wpB_seq ?_ | refine wpB_regionL rfl ?_ | refine wpB_block ?_ | refine wpB_skip ?_ | refine wpB_exit ?_ | refine wpB_ret ?_ | simp (maxSteps := 1000000) (dsimp := false) (disch := omega) only [go_sem, simprocAttr, *] | ((first | refine stepsB_both (fun hh => ?_) (fun hh => ?_) | refine stepsXB_both (fun hh => ?_) (fun hh => ?_)) <;> (try simp (maxSteps := 1000000) (dsimp := false) (disch := omega) only [go_sem, simprocAttr, decide_eq_true_eq, decide_eq_false_iff_not, Bool.not_eq_true, Bool.not_eq_false, Bool.not_eq_true', Bool.not_eq_false', Int.not_lt, Int.not_le, bne_iff_ne, bne_eq_false_iff_eq, beq_iff_eq, beq_eq_false_iff_ne, ne_eq, Int.ofNat_inj, Int.natCast_inj] at hh) <;> (try (exfalso; omega))) | (refine wpB_cond (by simp (maxSteps := 1000000) (dsimp := false) (disch := omega) only [go_sem, simprocAttr, *]; exact rfl) (fun hh => ?_) (fun hh => ?_) <;> (try simp (maxSteps := 1000000) (dsimp := false) (disch := omega) only [go_sem, simprocAttr, decide_eq_true_eq, decide_eq_false_iff_not, Bool.not_eq_true, Bool.not_eq_false, Bool.not_eq_true', Bool.not_eq_false', Int.not_lt, Int.not_le, bne_iff_ne, bne_eq_false_iff_eq, beq_iff_eq, beq_eq_false_iff_ne, ne_eq, Int.ofNat_inj, Int.natCast_inj] at hh) <;> (try (exfalso; omega))))
            refine wpB_regionXL (prs := []) (by kernel_rfl) rfl (by kernel_rfl) ?_
            simp (maxSteps := 1000000) (dsimp := false) (disch := omega) only [go_sem, simprocAttr, *]
            refine ⟨fun _ => iss (stripNI n w), evB_plain bo17 rfl rfl (stripNI n w) hc3 ?_⟩
            simp (maxSteps := 1000000) (dsimp := false) (disch := omega) only [go_sem, simprocAttr, *]
            refine ⟨fun _ => iss (stripNT n _ p), evB_plain bo22 rfl rfl (stripNT n _ p) hE ?_⟩
            repeat' (first | refine wpB_seq ?_ | refine wpB_regionL rfl ?_ | refine wpB_block ?_ | refine wpB_skip ?_ | refine wpB_exit ?_ | refine wpB_ret ?_ | simp (maxSteps := 1000000) (dsimp := false) (disch := omega) only [go_sem, simprocAttr, *] | ((first | refine stepsB_both (fun hh => ?_) (fun hh => ?_) | refine stepsXB_both (fun hh => ?_) (fun hh => ?_)) <;> (try simp (maxSteps := 1000000) (dsimp := false) (disch := omega) only [go_sem, simprocAttr, decide_eq_true_eq, decide_eq_false_iff_not, Bool.not_eq_true, Bool.not_eq_false, Bool.not_eq_true', Bool.not_eq_false', Int.not_lt, Int.not_le, bne_iff_ne, bne_eq_false_iff_eq, beq_iff_eq, beq_eq_false_iff_ne, ne_eq, Int.ofNat_inj, Int.natCast_inj] at hh) <;> (try (exfalso; omega))) | (refine wpB_cond (by simp (maxSteps := 1000000) (dsimp := false) (disch := omega) only [go_sem, simprocAttr, *]; exact rfl) (fun hh => ?_) (fun hh => ?_) <;> (try simp (maxSteps := 1000000) (dsimp := false) (disch := omega) only [go_sem, simprocAttr, decide_eq_true_eq, decide_eq_false_iff_not, Bool.not_eq_true, Bool.not_eq_false, Bool.not_eq_true', Bool.not_eq_false', Int.not_lt, Int.not_le, bne_iff_ne, bne_eq_false_iff_eq, beq_iff_eq, beq_eq_false_iff_ne, ne_eq, Int.ofNat_inj, Int.natCast_inj] at hh) <;> (try (exfalso; omega))))
end Go.Proofs.W
end
/- From a law's runs to the row that lists variables. -/
section
set_option linter.unusedVariables false
namespace Vm
open Go
section
variable {P : Program}
theorem typed_str {t : TypeId} {ds : List D} (hu : P.underlying t = some .string) (h : Typed P t ds) : ∃ s, ds = [.str s] ∧ s.length ≤ maxLen := by
  cases h with
  | bool _ b h => rw [hu] at h; cases h
  | int _ k1 n h hn => rw [hu] at h; cases h
  | str _ s h hs => exact ⟨s, rfl, hs⟩
  | slice _ e xs h hl hx => rw [hu] at h; cases h
  | struct _ fs ds h hf => rw [hu] at h; cases h
  | array _ e n ds h hf => rw [hu] at h; cases h
theorem typed_bool {t : TypeId} {ds : List D} (hu : P.underlying t = some .bool) (h : Typed P t ds) : ∃ b, ds = [.bool b] := by
  cases h with
  | bool _ b h => exact ⟨b, rfl⟩
  | int _ k1 n h hn => rw [hu] at h; cases h
  | str _ s h hs => rw [hu] at h; cases h
  | slice _ e xs h hl hx => rw [hu] at h; cases h
  | struct _ fs ds h hf => rw [hu] at h; cases h
  | array _ e n ds h hf => rw [hu] at h; cases h
theorem typedF_cons {t : TypeId} {ts : List TypeId} {ds : List D} (h : TypedF P (t :: ts) ds) : ∃ a b, ds = a ++ b ∧ Typed P t a ∧ TypedF P ts b := by
  cases h with
  | cons _ _ a b h hr => exact ⟨a, b, rfl, h, hr⟩
theorem typedE_one {e : TypeId} {xs : List D} (ha : aggT P e = false) (h : TypedE P e xs) {α : Type} (f : α → D) (hf : ∀ x, Typed P e [x] → ∃ a, x = f a) : ∃ l : List α, xs = l.map f := by
  induction xs with
  | nil => exact ⟨[], rfl⟩
  | cons x xs ih =>
    cases h with
    | agg _ cs _ ha' h hr => rw [ha] at ha'; cases ha'
    | one _ _ _ ha' h hr =>
      obtain ⟨l, hl⟩ := ih hr
      obtain ⟨a, hb⟩ := hf x h
      exact ⟨a :: l, by rw [List.map_cons, ← hl, hb]⟩
/-- as 'typedE_agg', for what lies within: each element is less than the list -/
theorem typedE_aggI {e : TypeId} {xs : List D} (ha : aggT P e = true) (h : TypedE P e xs) {α : Type} (f : α → D) (q : α → Prop) (hf : ∀ cs, SizeOf.sizeOf cs < SizeOf.sizeOf xs → Typed P e cs → ∃ a, D.agg cs = f a ∧ q a) : ∃ l : List α, xs = l.map f ∧ ∀ a ∈ l, q a := by
  induction xs with
  | nil => exact ⟨[], rfl, by simp⟩
  | cons x xs ih =>
    cases h with
    | agg _ cs _ ha' h hr =>
      obtain ⟨l, hl, hq⟩ := ih hr (fun cs hc => hf cs (by simp only [List.cons.sizeOf_spec]; omega))
      obtain ⟨a, hb, hqa⟩ := hf cs (by simp only [List.cons.sizeOf_spec, D.agg.sizeOf_spec]; omega) h
      refine ⟨a :: l, by rw [List.map_cons, ← hl, hb], fun y hy => ?_⟩
      rcases List.mem_cons.1 hy with rfl | hy
      · exact hqa
      · exact hq y hy
    | one _ _ _ ha' h hr => rw [ha] at ha'; cases ha'
theorem typedF_nil' {ds : List D} (h : TypedF P [] ds) : ds = [] := by cases h; rfl
theorem typedA_str {t : TypeId} {ts : List TypeId} {ds : List D} (hu : P.underlying t = some .string) (ha : aggT P t = false) (h : TypedA P (t :: ts) ds) : ∃ s r, ds = .str s :: r ∧ s.length ≤ maxLen ∧ TypedA P ts r := by
  obtain ⟨d, r, rfl, h1, h2⟩ := typedA_one ha h
  obtain ⟨s, hs, hl⟩ := typed_str hu h1
  cases hs
  exact ⟨s, r, rfl, hl, h2⟩
theorem typedA_int {t : TypeId} {k : IntKind} {ts : List TypeId} {ds : List D} (hu : P.underlying t = some (.int k)) (ha : aggT P t = false) (h : TypedA P (t :: ts) ds) : ∃ n r, ds = .int k n :: r ∧ (Lit.int k n).wf = true ∧ TypedA P ts r := by
  obtain ⟨d, r, rfl, h1, h2⟩ := typedA_one ha h
  obtain ⟨s, hs, hl⟩ := typed_int hu h1
  cases hs
  exact ⟨s, r, rfl, hl, h2⟩
theorem typedA_slice {t e : TypeId} {ts : List TypeId} {ds : List D} (hu : P.underlying t = some (.slice e)) (ha : aggT P t = false) (h : TypedA P (t :: ts) ds) : ∃ xs r, ds = .sl false xs :: r ∧ xs.length ≤ maxLen ∧ TypedE P e xs ∧ TypedA P ts r := by
  obtain ⟨d, r, rfl, h1, h2⟩ := typedA_one ha h
  obtain ⟨s, hs, hl, hx⟩ := typed_slice hu h1
  cases hs
  exact ⟨s, r, rfl, hl, hx, h2⟩
theorem typedE_ints {e : TypeId} {k : IntKind} {xs : List D} (hu : P.underlying e = some (.int k)) (ha : aggT P e = false) (h : TypedE P e xs) : ∃ l : List Int, xs = l.map (.int k) :=
  typedE_one ha h _ fun x hx => by
    obtain ⟨n, hn, -⟩ := typed_int hu hx
    cases hn
    exact ⟨n, rfl⟩
end

/-- the row's contract, where it lists variables and a function reads one of the library's own -/
theorem law_lifted {C : Checked} {os : Os} {f : FuncId} {fn : Func} {s : ChangeSpec} {H : Type} {enc : TypeId × Value → H} {conds : List PathCond} {laid : List (String × DataW Unit)} {A : Ann} {S : List TypeId} {tb : TypeId}
    (started : os.Started) (own : ownKnob C.prog.godebug = none) (noInit : C.prog.inits.idxOf? f = none) (hfn : C.prog.funcs[f]? = some fn)
    (witness : ∃ (w : World) (tape : Tape) (i : Input), w.os = os ∧ (w.forCall tape i).Shaped C.prog ∧ i.vars = [] ∧ Input.okWide C.prog (w.forCall tape i) .any w.heap.size f i ∧
      ((s.pre enc C.prog fn conds false (w.forCall tape i).memory i.args ∧ laidMetH C.prog laid (w.forCall tape i).memory) ∧ sizedMet enc C.prog fn (OpenSpec.ofChange s) false (w.forCall tape i).memory i.args) ∧ ({} : Assume).holds C.prog (lone (Frame.enter C.prog f i.args .normal) [] (w.forCall tape i)))
    (hvars : s.vars = []) (hl : laidOutB C.prog = true)
    (hts : (fn.params.toList.all fun t => C.prog.readableRec t && decide (t < C.prog.types.size)) = true) (hS : plainS C.prog S = true) (hpl : (fn.params.toList.all fun t => S.contains t) = true)
    (hbod : bodied C.prog f = true) (hres : fn.resultTypes = #[tb]) (htb : C.prog.underlying tb = some .bool)
    (hs : ∀ ds : List (DataW H), ds.length = fn.params.size → (s.fn H ds).results = [.lit (.bool true)] ∧ (s.fn H ds).args = ds ∧ (s.fn H ds).vars = [])
    (hprim : ∀ W : World, W.ShapedOpen C.prog → @PrimOk ⟨im0 W⟩ C.prog A)
    (hrun : ∀ Ds, TypedA C.prog fn.params.toList Ds → ∃ k H', runF C.prog A k f Ds [] = some (.ok (.bool true) H')) :
    ReturnsInHanded {} C os f .any (fun w args => (s.pre enc C.prog fn conds false w args ∧ laidMetH C.prog laid w) ∧ sizedMet enc C.prog fn (OpenSpec.ofChange s) false w args) (s.post enc C.prog fn false true false false) := by
  refine returnsInHanded_of_calls own started noInit witness ?_
  intro w tape i _ hsh _ hok hpre hholds
  obtain ⟨_, _, _, fn', hfn', _, _, _, _, hval⟩ := hok
  have e : fn' = fn := Option.some.inj (hfn'.symm.trans hfn)
  subst e
  obtain ⟨⟨⟨ds, gs, before, hw, hc⟩, hx⟩, hz⟩ := hpre
  have hw' := DataW.Whole.of_heap (w' := w.forCall tape i) (by rfl) hw
  have hts' : ∀ t ∈ fn'.params.toList, C.prog.readableRec t = true ∧ t < C.prog.types.size := fun t ht => by
    have h2 : C.prog.readableRec t = true ∧ decide (t < C.prog.types.size) = true := by simpa only [Bool.and_eq_true] using List.all_eq_true.1 hts t ht
    exact ⟨h2.1, of_decide_eq_true h2.2⟩
  refine (law_contract hvars hl hts' hS hpl hbod hres htb hs hrun (w.forCall tape i) w.heap.size i.args ds gs before hval hw' (hprim _ hsh)).mono fun e W' ⟨v, he, hp⟩ => ?_
  subst he
  exact ChangeSpec.post_blind hp
end Vm
end
/- The chapter on machines with free steps: what typed data are. -/
section
set_option maxHeartbeats 4000000
set_option linter.unusedVariables false
set_option linter.unusedSimpArgs false
namespace Go.Proofs.W
open Go Vm Go.Proofs.Zs06

theorem typedA_agg {t : TypeId} {ts : List TypeId} {ds : List D} (ha : aggT Try.prog t = true) (h : TypedA Try.prog (t :: ts) ds) : ∃ cs r, ds = .agg cs :: r ∧ Typed Try.prog t cs ∧ TypedA Try.prog ts r := by
  cases h with
  | agg _ _ cs ds _ h hr => exact ⟨cs, ds, rfl, h, hr⟩
  | one _ _ d ds ha' => rw [ha] at ha'; cases ha'
theorem typedE_intsW {e : TypeId} {k : IntKind} {xs : List D} (hu : Try.prog.underlying e = some (.int k)) (ha : aggT Try.prog e = false) (h : TypedE Try.prog e xs) : ∃ l : List Int, xs = l.map (.int k) ∧ ∀ x ∈ l, (Lit.int k x).wf = true := by
  obtain ⟨l, rfl⟩ := typedE_one ha h (α := { n : Int // (Lit.int k n).wf = true }) (fun a => .int k a.1) fun x hx => by
    obtain ⟨n, hn, hw⟩ := typed_int hu hx
    cases hn
    exact ⟨⟨n, hw⟩, rfl⟩
  refine ⟨l.map (·.1), by simp, fun x hx => ?_⟩
  obtain ⟨a, -, rfl⟩ := List.mem_map.1 hx
  exact a.2
theorem typedE_rows {xs : List D} (h : TypedE Try.prog 27 xs) : ∃ l : List (List Int), xs = l.map isD :=
  typedE_one (by kernel_rfl) h isD fun x hx => by
    obtain ⟨ys, hy, -, he⟩ := typed_slice un27 hx
    cases hy
    obtain ⟨l, rfl⟩ := typedE_ints un3 (by kernel_rfl) he
    exact ⟨l, rfl⟩
theorem ftNfa : fieldTs Try.prog 29 = some [25, 26, 27, 27] := by kernel_rfl
theorem wf_u16' {n : Int} (h : (Lit.int .u16 n).wf = true) : 0 ≤ n ∧ n < 65536 := by simp [Lit.wf, IntKind.min, IntKind.max, IntKind.signed, IntKind.bits] at h; omega
theorem nfa_of_typed {cs : List D} (h : Typed Try.prog 29 cs) : ∃ n : Nfa, D.agg cs = nfaD n ∧ tyN n := by
  have hf0 := typed_fields ftNfa h
  obtain ⟨a, b, rfl, ha, hf1⟩ := typedF_cons hf0
  obtain ⟨x1, rfl, -, h1⟩ := typed_slice un25 ha
  obtain ⟨a, b, rfl, ha, hf2⟩ := typedF_cons hf1
  obtain ⟨x2, rfl, -, h2⟩ := typed_slice un26 ha
  obtain ⟨a, b, rfl, ha, hf3⟩ := typedF_cons hf2
  obtain ⟨x3, rfl, -, h3⟩ := typed_slice un27 ha
  obtain ⟨a, b, rfl, ha, hf4⟩ := typedF_cons hf3
  obtain ⟨x4, rfl, -, h4⟩ := typed_slice un27 ha
  cases typedF_nil hf4
  obtain ⟨l1, rfl⟩ := typedE_rows h1
  obtain ⟨l2, rfl, hw⟩ := typedE_intsW un36 (by kernel_rfl) h2
  obtain ⟨l3, rfl⟩ := typedE_ints un3 (by kernel_rfl) h3
  obtain ⟨l4, rfl⟩ := typedE_ints un3 (by kernel_rfl) h4
  exact ⟨⟨l1, l2, l3, l4⟩, rfl, fun x hx => wf_u16' (hw x hx)⟩
end Go.Proofs.W
end
