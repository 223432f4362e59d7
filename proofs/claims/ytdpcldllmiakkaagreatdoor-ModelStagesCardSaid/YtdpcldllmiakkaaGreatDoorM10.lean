/- The law ModelStages. -/
import Derived.Test.YtdpcldllmiakkaaGreatDoorM6
import Derived.Test.YtdpcldllmiakkaaGreatDoorM9
set_option maxHeartbeats 4000000
set_option linter.unusedVariables false
set_option linter.unusedSimpArgs false
namespace Go.Proofs.W
open Go Vm Go.Proofs.Zs25

theorem bit_no (t : List UInt8) (h : ∀ p ∈ bitsL, (t == p.1) = false) : PureF Tryz.prog B 18 [.str t] (.int .i64 1) := by
  simp only [bitsL, List.forall_mem_cons] at h
  obtain ⟨a1, a2, a3, a4, a5, a6, a7, a8, a9, b1, b2, b3, b4, b5, -⟩ := h
  refine evF_inB (n := 27) (rs := [.tmp 2]) Tryz.func18 rfl rfl rfl rfl rfl rfl ?_
  repeat' (first | refine wz1 ?_ | refine wz2 ?_ | refine wz3 ?_ | refine wz4 ?_ | refine wz5 ?_ | refine wz6 ?_ | simp -dsimp (maxSteps:=999999) (disch:=omega) only[go_sem,simprocAttr, *] | ((first | refine wz8 (fun hh => ?_) (fun hh => ?_) | refine wz9 (fun hh => ?_) (fun hh => ?_) | refine wz7 (fun hh => ?_) (fun hh => ?_)) <;> (try replace hh := vqs hh) <;> (try (exfalso; first | exact hh | omega))))
def wordsR : List (List UInt8) := [[114, 112, 104, 102], [104, 97, 108, 102], [42], [105, 115, 111, 108], [102, 105, 110, 97], [109, 101, 100, 105], [105, 110, 105, 116], [108, 106, 109, 111], [118, 106, 109, 111], [116, 106, 109, 111]]
def wordsT : List UInt8 := [114, 112, 104, 102, 32, 104, 97, 108, 102, 32, 42, 32, 105, 115, 111, 108, 32, 102, 105, 110, 97, 32, 109, 101, 100, 105, 32, 105, 110, 105, 116, 32, 108, 106, 109, 111, 32, 118, 106, 109, 111, 32, 116, 106, 109, 111]
theorem words_run : PureF Tryz.prog B 29 [.str wordsT, .int .u8 32] (ssD wordsR) := tells_pure (k := 200) (by kernel_rfl)
theorem rbit_no (t : List UInt8) (h : ∀ p ∈ bitsL, (t == p.1) = false) : PureF Tryz.prog B 19 [.str t] (.int .i64 1) := by
  have hs : ∀ s ∈ wordsR, (s == t) = false := fun s hs => by
    have hm : s ∈ bitsL.map (·.1) := (show ∀ s ∈ wordsR, s ∈ bitsL.map (·.1) by decide) s hs
    obtain ⟨p, hp, rfl⟩ := List.mem_map.1 hm
    have := h p hp
    exact beq_eq_false_iff_ne.2 fun e => beq_eq_false_iff_ne.1 this e.symm
  have hw := words_run
  have hl1 : wordsR.length ≤ 10 := by decide
  simp only [bitsL, List.forall_mem_cons] at h
  obtain ⟨-, -, a3, a4, a5, a6, -, -, -, -, -, -, -, -, -⟩ := h
  unfold wordsT at hw
  generalize wordsR = L at hs hw hl1
  have hp : ∀ j : Nat, j < 10 → (2 : Int) ^ (j + 2) = 2 ^ (j + 1) * 2 ∧ 0 ≤ (2 : Int) ^ (j + 1) ∧ (2 : Int) ^ (j + 1) ≤ 2048 := by decide
  generalize hq : (fun j : Nat => (2 : Int) ^ (j + 1)) = p
  have hp' : ∀ j : Nat, j < 10 → p (j + 1) = p j * 2 ∧ 0 ≤ p j ∧ p j ≤ 2048 := by rw [← hq]; exact hp
  have hp0 : p 0 = 2 := by rw [← hq]; rfl
  clear hp hq
  refine evF_inB (n := 40) (rs := [.tmp 2]) Tryz.func19 rfl rfl rfl rfl rfl rfl ?_
  repeat' (first | refine wz1 ?_ | refine wz2 ?_ | refine wz3 ?_ | refine wz4 ?_ | refine wz5 ?_ | refine wz6 ?_ | simp -dsimp (maxSteps:=999999) (disch:=omega) only[go_sem,simprocAttr, *] | ((first | refine wz8 (fun hh => ?_) (fun hh => ?_) | refine wz9 (fun hh => ?_) (fun hh => ?_) | refine wz7 (fun hh => ?_) (fun hh => ?_)) <;> (try replace hh := vqs hh) <;> (try (exfalso; first | exact hh | omega))))
  refine evB_plain bo29 rfl rfl rfl hw ?_
  repeat' (first | refine wz1 ?_ | refine wz2 ?_ | refine wz3 ?_ | refine wz4 ?_ | refine wz5 ?_ | refine wz6 ?_ | simp -dsimp (maxSteps:=999999) (disch:=omega) only[go_sem,simprocAttr, *,ssD] | ((first | refine wz8 (fun hh => ?_) (fun hh => ?_) | refine wz9 (fun hh => ?_) (fun hh => ?_) | refine wpB_cond (by simp -dsimp (maxSteps:=999999) (disch:=omega) only[go_sem,simprocAttr, *,ssD]; exact rfl) (fun hh => ?_) (fun hh => ?_)) <;> (try replace hh := vqs hh) <;> (try (exfalso; first | exact hh | omega))))
  refine wpB_loop (fun e H => ∃ j : Nat, j ≤ L.length ∧ e 0 = .str t ∧ e 3 = .sl false (L.map .str) ∧ e 4 = .int .i64 (p j) ∧ e 5 = .int .i64 j) (fun e H => L.length - natOf (e 5)) ?_ ?_
  · exact ⟨0, by omega, gs, gs, gs, gs⟩
  rintro e H ⟨j, hj, e0, e3, e4, e5⟩ R hR
  by_cases hb : j < L.length
  case neg => repeat' (first | refine wz1 ?_ | refine wz2 ?_ | refine wz3 ?_ | refine wz4 ?_ | refine wz5 ?_ | refine wz6 ?_ | simp -dsimp (maxSteps:=999999) (disch:=omega) only[go_sem,simprocAttr, *] | ((first | refine wz8 (fun hh => ?_) (fun hh => ?_) | refine wz9 (fun hh => ?_) (fun hh => ?_) | refine wz7 (fun hh => ?_) (fun hh => ?_)) <;> (try replace hh := vqs hh) <;> (try (exfalso; first | exact hh | omega))))
  have hc := str_get hb
  have hq := hs L[j] (List.getElem_mem hb)
  generalize L[j] = x at hc hq
  obtain ⟨p1, p2, p3⟩ := hp' j (by omega)
  clear hp'
  repeat' (first | refine wz1 ?_ | refine wz2 ?_ | refine wz3 ?_ | refine wz4 ?_ | refine wz5 ?_ | refine wz6 ?_ | simp -dsimp (maxSteps:=999999) (disch:=omega) only[go_sem,simprocAttr, *] | ((first | refine wz8 (fun hh => ?_) (fun hh => ?_) | refine wz9 (fun hh => ?_) (fun hh => ?_) | refine wz7 (fun hh => ?_) (fun hh => ?_)) <;> (try replace hh := vqs hh) <;> (try (exfalso; first | exact hh | omega))))
  refine hR _ _ ⟨j + 1, by omega, gs, gs, gs, gs⟩ ?_
  simp -dsimp (maxSteps:=999999) (disch:=omega) only[go_sem,simprocAttr, *,natOf_int]
theorem bit_all (t : List UInt8) : ∃ n, PureF Tryz.prog B 18 [.str t] (.int .i64 n) ∧ PureF Tryz.prog B 19 [.str t] (.int .i64 n) := by
  by_cases h : ∃ p ∈ bitsL, p.1 = t
  · obtain ⟨p, hp, rfl⟩ := h
    exact ⟨p.2, tells_pure (List.all_eq_true.1 bit_run p hp), tells_pure (List.all_eq_true.1 rbit_run p hp)⟩
  · have hn : ∀ p ∈ bitsL, (t == p.1) = false := fun p hp => by simpa using fun e => h ⟨p, hp, e.symm⟩
    exact ⟨1, bit_no t hn, rbit_no t hn⟩
theorem told_no (x : Int) (h0 : ¬ x = 0) (h1 : ¬ x = 1) (h2 : ¬ x = 2) (h3 : ¬ x = 3) (h4 : ¬ x = 4) (h5 : ¬ x = 5) (h6 : ¬ x = 6) : PureF Tryz.prog B 31 [.int .i64 x] (.str []) := by
  refine evF_inB (n := 18) (rs := [.tmp 2]) Tryz.func31 rfl rfl rfl rfl rfl rfl ?_
  repeat' (first | refine wz1 ?_ | refine wz2 ?_ | refine wz3 ?_ | refine wz4 ?_ | refine wz5 ?_ | refine wz6 ?_ | simp -dsimp (maxSteps:=999999) (disch:=omega) only[go_sem,simprocAttr, *] | ((first | refine wz8 (fun hh => ?_) (fun hh => ?_) | refine wz9 (fun hh => ?_) (fun hh => ?_) | refine wz7 (fun hh => ?_) (fun hh => ?_)) <;> (try replace hh := vqs hh) <;> (try (exfalso; first | exact hh | omega))))
  rfl
theorem st_no (x : Int) (h0 : ¬ x = 0) (h1 : ¬ x = 1) (h2 : ¬ x = 2) (h3 : ¬ x = 3) (h4 : ¬ x = 4) (h5 : ¬ x = 5) (h6 : ¬ x = 6) : PureF Tryz.prog B 14 [.int .i64 x] (stsD []) := by
  have ht := told_no x h0 h1 h2 h3 h4 h5 h6
  refine evF_inB (n := 34) (rs := [.tmp 2]) Tryz.func14 rfl rfl rfl rfl rfl rfl ?_
  repeat' (first | refine wz1 ?_ | refine wz2 ?_ | refine wz3 ?_ | refine wz4 ?_ | refine wz5 ?_ | refine wz6 ?_ | simp -dsimp (maxSteps:=999999) (disch:=omega) only[go_sem,simprocAttr, *] | ((first | refine wz8 (fun hh => ?_) (fun hh => ?_) | refine wz9 (fun hh => ?_) (fun hh => ?_) | refine wz7 (fun hh => ?_) (fun hh => ?_)) <;> (try replace hh := vqs hh) <;> (try (exfalso; first | exact hh | omega))))
  refine evB_plain bo31 rfl rfl rfl ht ?_
  repeat' (first | refine wz1 ?_ | refine wz2 ?_ | refine wz3 ?_ | refine wz4 ?_ | refine wz5 ?_ | refine wz6 ?_ | simp -dsimp (maxSteps:=999999) (disch:=omega) only[go_sem,simprocAttr, *,stsD] | ((first | refine wz8 (fun hh => ?_) (fun hh => ?_) | refine wz9 (fun hh => ?_) (fun hh => ?_) | refine wpB_cond (by simp -dsimp (maxSteps:=999999) (disch:=omega) only[go_sem,simprocAttr, *,stsD]; exact rfl) (fun hh => ?_) (fun hh => ?_)) <;> (try replace hh := vqs hh) <;> (try (exfalso; first | exact hh | omega))))
  rfl
theorem rst_no (x : Int) (h0 : ¬ x = 0) (h1 : ¬ x = 1) (h2 : ¬ x = 2) (h3 : ¬ x = 3) (h4 : ¬ x = 4) (h5 : ¬ x = 5) (h6 : ¬ x = 6) : PureF Tryz.prog B 15 [.int .i64 x] (stsD []) := by
  refine evF_inB (n := 80) (rs := [.tmp 2]) Tryz.func15 rfl rfl rfl rfl rfl rfl ?_
  repeat' (first | refine wz1 ?_ | refine wz2 ?_ | refine wz3 ?_ | refine wz4 ?_ | refine wz5 ?_ | refine wz6 ?_ | simp -dsimp (maxSteps:=999999) (disch:=omega) only[go_sem,simprocAttr, *,stsD] | ((first | refine wz8 (fun hh => ?_) (fun hh => ?_) | refine wz9 (fun hh => ?_) (fun hh => ?_) | refine wpB_cond (by simp -dsimp (maxSteps:=999999) (disch:=omega) only[go_sem,simprocAttr, *,stsD]; exact rfl) (fun hh => ?_) (fun hh => ?_)) <;> (try replace hh := vqs hh) <;> (try (exfalso; first | exact hh | omega))))
  rfl
theorem gra_no (x : Int) (h1 : ¬ x = 1) (h2 : ¬ x = 2) (h3 : ¬ x = 3) (h4 : ¬ x = 4) : PureF Tryz.prog B 16 [.int .i64 x] (.str []) := by
  refine evF_inB (n := 12) (rs := [.tmp 2]) Tryz.func16 rfl rfl rfl rfl rfl rfl ?_
  repeat' (first | refine wz1 ?_ | refine wz2 ?_ | refine wz3 ?_ | refine wz4 ?_ | refine wz5 ?_ | refine wz6 ?_ | simp -dsimp (maxSteps:=999999) (disch:=omega) only[go_sem,simprocAttr, *] | ((first | refine wz8 (fun hh => ?_) (fun hh => ?_) | refine wz9 (fun hh => ?_) (fun hh => ?_) | refine wz7 (fun hh => ?_) (fun hh => ?_)) <;> (try replace hh := vqs hh) <;> (try (exfalso; first | exact hh | omega))))
  rfl
theorem rgra_no (x : Int) (h1 : ¬ x = 1) (h2 : ¬ x = 2) (h3 : ¬ x = 3) (h4 : ¬ x = 4) : PureF Tryz.prog B 17 [.int .i64 x] (.str []) := by
  refine evF_inB (n := 12) (rs := [.tmp 2]) Tryz.func17 rfl rfl rfl rfl rfl rfl ?_
  repeat' (first | refine wz1 ?_ | refine wz2 ?_ | refine wz3 ?_ | refine wz4 ?_ | refine wz5 ?_ | refine wz6 ?_ | simp -dsimp (maxSteps:=999999) (disch:=omega) only[go_sem,simprocAttr, *] | ((first | refine wz8 (fun hh => ?_) (fun hh => ?_) | refine wz9 (fun hh => ?_) (fun hh => ?_) | refine wz7 (fun hh => ?_) (fun hh => ?_)) <;> (try replace hh := vqs hh) <;> (try (exfalso; first | exact hh | omega))))
  rfl
theorem gra_all (x : Int) : ∃ s, PureF Tryz.prog B 16 [.int .i64 x] (.str s) ∧ PureF Tryz.prog B 17 [.int .i64 x] (.str s) := by
  by_cases h1 : x = 1
  · subst h1; exact ⟨_, gra1_ok, rgra1_ok⟩
  by_cases h2 : x = 2
  · subst h2; exact ⟨_, gra2_ok, rgra2_ok⟩
  by_cases h3 : x = 3
  · subst h3; exact ⟨_, gra3_ok, rgra3_ok⟩
  by_cases h4 : x = 4
  · subst h4; exact ⟨_, gra4_ok, rgra4_ok⟩
  exact ⟨_, gra_no x h1 h2 h3 h4, rgra_no x h1 h2 h3 h4⟩
theorem eqBool (x y : Bool) : eqD Tryz.prog 4 (.bool x) (.bool y) = some (x == y) := by kernel_rfl
attribute [go_sem] eqBool
def smallSt (l : List (List (List UInt8) × Bool)) : Prop := l.length ≤ 100 ∧ ∀ s ∈ l, s.1.length ≤ 100
theorem st_all (x : Int) : ∃ l, smallSt l ∧ PureF Tryz.prog B 14 [.int .i64 x] (stsD l) ∧ PureF Tryz.prog B 15 [.int .i64 x] (stsD l) := by
  by_cases h0 : x = 0
  · subst h0; exact ⟨_, ⟨by decide, by decide⟩, st0_ok, rst0_ok⟩
  by_cases h1 : x = 1
  · subst h1; exact ⟨_, ⟨by decide, by decide⟩, st1_ok, rst1_ok⟩
  by_cases h2 : x = 2
  · subst h2; exact ⟨_, ⟨by decide, by decide⟩, st2_ok, rst2_ok⟩
  by_cases h3 : x = 3
  · subst h3; exact ⟨_, ⟨by decide, by decide⟩, st3_ok, rst3_ok⟩
  by_cases h4 : x = 4
  · subst h4; exact ⟨_, ⟨by decide, by decide⟩, st4_ok, rst4_ok⟩
  by_cases h5 : x = 5
  · subst h5; exact ⟨_, ⟨by decide, by decide⟩, st5_ok, rst5_ok⟩
  by_cases h6 : x = 6
  · subst h6; exact ⟨_, ⟨by decide, by decide⟩, st6_ok, rst6_ok⟩
  exact ⟨[], ⟨by decide, by decide⟩, st_no x h0 h1 h2 h3 h4 h5 h6, rst_no x h0 h1 h2 h3 h4 h5 h6⟩
theorem sts_get {l : List (List (List UInt8) × Bool)} {i : Nat} (h : i < l.length) : (l.map stD)[i]? = some (.agg [.sl false (l[i].1.map .str), .bool l[i].2]) := by simp [h, stD, ssD]
theorem stages_law (kind : Int) (tag : List UInt8) : YesB 4 [.int .i64 kind, .str tag] := by
  obtain ⟨n, n1, n2⟩ := bit_all tag
  have hp := pl_ok
  generalize hPL : ([[107, 101, 114, 110], [109, 97, 114, 107], [109, 107, 109, 107], [99, 117, 114, 115]] : List (List UInt8)) = PL at hp
  have hx := texts_ok PL (by rw [← hPL]; decide)
  have sP := strip_ss PL
  refine evF_inB (n := 107) (rs := [.tmp 4]) Tryz.func4 rfl rfl rfl rfl rfl rfl ?_
  repeat' (first | refine wz1 ?_ | refine wz2 ?_ | refine wz3 ?_ | refine wz4 ?_ | refine wz5 ?_ | refine wz6 ?_ | simp -dsimp (maxSteps:=999999) (disch:=omega) only[go_sem,simprocAttr, *] | ((first | refine wz8 (fun hh => ?_) (fun hh => ?_) | refine wz9 (fun hh => ?_) (fun hh => ?_) | refine wz7 (fun hh => ?_) (fun hh => ?_)) <;> (try replace hh := vqs hh) <;> (try (exfalso; first | exact hh | omega))))
  refine evB_plain bo8 rfl rfl rfl alive_B ?_
  repeat' (first | refine wz1 ?_ | refine wz2 ?_ | refine wz3 ?_ | refine wz4 ?_ | refine wz5 ?_ | refine wz6 ?_ | simp -dsimp (maxSteps:=999999) (disch:=omega) only[go_sem,simprocAttr, *] | ((first | refine wz8 (fun hh => ?_) (fun hh => ?_) | refine wz9 (fun hh => ?_) (fun hh => ?_) | refine wz7 (fun hh => ?_) (fun hh => ?_)) <;> (try replace hh := vqs hh) <;> (try (exfalso; first | exact hh | omega))))
  refine wpB_loopM (fun m e H => ∃ k : Int, m = (9 - k).toNat ∧ -1 ≤ k ∧ k ≤ 9 ∧ e 0 = .int .i64 kind ∧ e 1 = .str tag ∧ e 5 = .int .i64 k) 10 ?_ ?_
  · exact ⟨-1, by omega, by omega, by omega, gs, gs, gs⟩
  rintro m e H ⟨k, hm, hk0, hk1, e0, e1, e5⟩ R hR
  by_cases hb : k < 9
  case neg =>
    repeat' (first | refine wz1 ?_ | refine wz2 ?_ | refine wz3 ?_ | refine wz4 ?_ | refine wz5 ?_ | refine wz6 ?_ | simp -dsimp (maxSteps:=999999) (disch:=omega) only[go_sem,simprocAttr, *] | ((first | refine wz8 (fun hh => ?_) (fun hh => ?_) | refine wz9 (fun hh => ?_) (fun hh => ?_) | refine wz7 (fun hh => ?_) (fun hh => ?_)) <;> (try replace hh := vqs hh) <;> (try (exfalso; first | exact hh | omega))))
    refine evB_plain bo18 rfl rfl rfl n1 ?_
    repeat' (first | refine wz1 ?_ | refine wz2 ?_ | refine wz3 ?_ | refine wz4 ?_ | refine wz5 ?_ | refine wz6 ?_ | simp -dsimp (maxSteps:=999999) (disch:=omega) only[go_sem,simprocAttr, *] | ((first | refine wz8 (fun hh => ?_) (fun hh => ?_) | refine wz9 (fun hh => ?_) (fun hh => ?_) | refine wz7 (fun hh => ?_) (fun hh => ?_)) <;> (try replace hh := vqs hh) <;> (try (exfalso; first | exact hh | omega))))
    refine evB_plain bo19 rfl rfl rfl n2 ?_
    have q1 : (n == n) = true := by simp
    repeat' (first | refine wz1 ?_ | refine wz2 ?_ | refine wz3 ?_ | refine wz4 ?_ | refine wz5 ?_ | refine wz6 ?_ | simp -dsimp (maxSteps:=999999) (disch:=omega) only[go_sem,simprocAttr, *] | ((first | refine wz8 (fun hh => ?_) (fun hh => ?_) | refine wz9 (fun hh => ?_) (fun hh => ?_) | refine wz7 (fun hh => ?_) (fun hh => ?_)) <;> (try replace hh := vqs hh) <;> (try (exfalso; first | exact hh | omega))))
    refine evB_plain bo20 rfl rfl rfl hp ?_
    have hv : ∀ H : Heap, VecAt 0 (.vec H.length 0 4) (H ++ [Ob.arr (PL.map .str)]) (PL.map .str) := fun H => by
      subst hPL
      exact ⟨by simp, .inr ⟨by simp, H.length, by omega, by simp, rfl, by rw [hget_app0]; rfl⟩⟩
    obtain ⟨H', hpu⟩ := pures_vec (hv H) (strip_strs PL) sP
    subst hPL
    clear hv
    simp only [List.map_cons, List.map_nil] at hpu
    repeat' (first | refine wz1 ?_ | refine wz2 ?_ | refine wz3 ?_ | refine wz4 ?_ | refine wz5 ?_ | refine wz6 ?_ | simp -dsimp (maxSteps:=999999) (disch:=omega) only[go_sem,simprocAttr, *,ssD] | ((first | refine wz8 (fun hh => ?_) (fun hh => ?_) | refine wz9 (fun hh => ?_) (fun hh => ?_) | refine wpB_cond (by simp -dsimp (maxSteps:=999999) (disch:=omega) only[go_sem,simprocAttr, *,ssD]; exact rfl) (fun hh => ?_) (fun hh => ?_)) <;> (try replace hh := vqs hh) <;> (try (exfalso; first | exact hh | omega))))
    refine evB_pure bo12 rfl rfl hpu hx ?_
    repeat' (first | refine wz1 ?_ | refine wz2 ?_ | refine wz3 ?_ | refine wz4 ?_ | refine wz5 ?_ | refine wz6 ?_ | simp -dsimp (maxSteps:=999999) (disch:=omega) only[go_sem,simprocAttr, *] | ((first | refine wz8 (fun hh => ?_) (fun hh => ?_) | refine wz9 (fun hh => ?_) (fun hh => ?_) | refine wz7 (fun hh => ?_) (fun hh => ?_)) <;> (try replace hh := vqs hh) <;> (try (exfalso; first | exact hh | omega))))
  obtain ⟨x, hx'⟩ : ∃ x, (k < 0 ∧ x = kind) ∨ (0 ≤ k ∧ x = k) := by
    by_cases h : k < 0
    · exact ⟨kind, .inl ⟨h, rfl⟩⟩
    · exact ⟨k, .inr ⟨by omega, rfl⟩⟩
  obtain ⟨g, g1, g2⟩ := gra_all x
  obtain ⟨l, ⟨hl1, hl2⟩, l1, l2⟩ := st_all x
  clear n1 n2 hp hx sP
  have q1 : (g == g) = true := by simp
  have q2 : (l.length != l.length) = false := by simp
  have q3 : ((l.length : Int) != l.length) = false := by simp
  rcases hx' with ⟨hk, hx⟩ | ⟨hk, hx⟩
  all_goals
    rw [hx] at g1 g2 l1 l2
    clear hx x
    repeat' (first | refine wz1 ?_ | refine wz2 ?_ | refine wz3 ?_ | refine wz4 ?_ | refine wz5 ?_ | refine wz6 ?_ | simp -dsimp (maxSteps:=999999) (disch:=omega) only[go_sem,simprocAttr, *] | ((first | refine wz8 (fun hh => ?_) (fun hh => ?_) | refine wz9 (fun hh => ?_) (fun hh => ?_) | refine wz7 (fun hh => ?_) (fun hh => ?_)) <;> (try replace hh := vqs hh) <;> (try (exfalso; first | exact hh | omega))))
    refine evB_plain bo14 rfl rfl rfl l1 ?_
    repeat' (first | refine wz1 ?_ | refine wz2 ?_ | refine wz3 ?_ | refine wz4 ?_ | refine wz5 ?_ | refine wz6 ?_ | simp -dsimp (maxSteps:=999999) (disch:=omega) only[go_sem,simprocAttr, *] | ((first | refine wz8 (fun hh => ?_) (fun hh => ?_) | refine wz9 (fun hh => ?_) (fun hh => ?_) | refine wz7 (fun hh => ?_) (fun hh => ?_)) <;> (try replace hh := vqs hh) <;> (try (exfalso; first | exact hh | omega))))
    refine evB_plain bo15 rfl rfl rfl l2 ?_
    repeat' (first | refine wz1 ?_ | refine wz2 ?_ | refine wz3 ?_ | refine wz4 ?_ | refine wz5 ?_ | refine wz6 ?_ | simp -dsimp (maxSteps:=999999) (disch:=omega) only[go_sem,simprocAttr, *,stsD] | ((first | refine wz8 (fun hh => ?_) (fun hh => ?_) | refine wz9 (fun hh => ?_) (fun hh => ?_) | refine wpB_cond (by simp -dsimp (maxSteps:=999999) (disch:=omega) only[go_sem,simprocAttr, *,stsD]; exact rfl) (fun hh => ?_) (fun hh => ?_)) <;> (try replace hh := vqs hh) <;> (try (exfalso; first | exact hh | omega))))
    refine evB_plain bo16 rfl rfl rfl g1 ?_
    repeat' (first | refine wz1 ?_ | refine wz2 ?_ | refine wz3 ?_ | refine wz4 ?_ | refine wz5 ?_ | refine wz6 ?_ | simp -dsimp (maxSteps:=999999) (disch:=omega) only[go_sem,simprocAttr, *] | ((first | refine wz8 (fun hh => ?_) (fun hh => ?_) | refine wz9 (fun hh => ?_) (fun hh => ?_) | refine wz7 (fun hh => ?_) (fun hh => ?_)) <;> (try replace hh := vqs hh) <;> (try (exfalso; first | exact hh | omega))))
    refine evB_plain bo17 rfl rfl rfl g2 ?_
    repeat' (first | refine wz1 ?_ | refine wz2 ?_ | refine wz3 ?_ | refine wz4 ?_ | refine wz5 ?_ | refine wz6 ?_ | simp -dsimp (maxSteps:=999999) (disch:=omega) only[go_sem,simprocAttr, *] | ((first | refine wz8 (fun hh => ?_) (fun hh => ?_) | refine wz9 (fun hh => ?_) (fun hh => ?_) | refine wz7 (fun hh => ?_) (fun hh => ?_)) <;> (try replace hh := vqs hh) <;> (try (exfalso; first | exact hh | omega))))
    clear g1 g2 l1 l2
    refine wpB_loop (fun e H => ∃ i : Nat, i ≤ l.length ∧ e 0 = .int .i64 kind ∧ e 1 = .str tag ∧ e 5 = .int .i64 k ∧ e 7 = .sl false (l.map stD) ∧ e 8 = .sl false (l.map stD) ∧ e 9 = .int .i64 i) (fun e H => l.length - natOf (e 9)) ?_ ?_
    · exact ⟨0, by omega, gs, gs, gs, gs, gs, gs⟩
    clear e0 e1 e5
    rintro e H ⟨i, hi, e0, e1, e5, e7, e8, e9⟩ R2 hR2
    by_cases hbi : i < l.length
    case neg =>
      repeat' (first | refine wz1 ?_ | refine wz2 ?_ | refine wz3 ?_ | refine wz4 ?_ | refine wz5 ?_ | refine wz6 ?_ | simp -dsimp (maxSteps:=999999) (disch:=omega) only[go_sem,simprocAttr, *] | ((first | refine wz8 (fun hh => ?_) (fun hh => ?_) | refine wz9 (fun hh => ?_) (fun hh => ?_) | refine wz7 (fun hh => ?_) (fun hh => ?_)) <;> (try replace hh := vqs hh) <;> (try (exfalso; first | exact hh | omega))))
      exact hR _ _ _ ⟨k + 1, rfl, by omega, by omega, gs, gs, gs⟩ (by omega)
    have hc := sts_get hbi
    have hsl := hl2 l[i] (List.getElem_mem hbi)
    generalize l[i] = s at hc hsl
    obtain ⟨ss, sb⟩ := s
    simp only at hc hsl
    have hx := texts_ok ss (by omega)
    have sS := strip_ss ss
    have q4 : (sb == sb) = true := by simp
    have es : ssD ss = .sl false (ss.map .str) := rfl
    rw [es] at hx sS
    repeat' (first | refine wz1 ?_ | refine wz2 ?_ | refine wz3 ?_ | refine wz4 ?_ | refine wz5 ?_ | refine wz6 ?_ | simp -dsimp (maxSteps:=999999) (disch:=omega) only[go_sem,simprocAttr, *] | ((first | refine wz8 (fun hh => ?_) (fun hh => ?_) | refine wz9 (fun hh => ?_) (fun hh => ?_) | refine wz7 (fun hh => ?_) (fun hh => ?_)) <;> (try replace hh := vqs hh) <;> (try (exfalso; first | exact hh | omega))))
    refine wpB_regionXL (prs := []) (by kernel_rfl) rfl (by kernel_rfl) ?_; simp -dsimp (maxSteps:=999999) (disch:=omega) only[go_sem,simprocAttr, *]
    refine ⟨fun _ => by rw [strip2 sS sS]; rfl, evB_plain bo12 rfl rfl (strip2 sS sS) hx ?_⟩
    repeat' (first | refine wz1 ?_ | refine wz2 ?_ | refine wz3 ?_ | refine wz4 ?_ | refine wz5 ?_ | refine wz6 ?_ | simp -dsimp (maxSteps:=999999) (disch:=omega) only[go_sem,simprocAttr, *] | ((first | refine wz8 (fun hh => ?_) (fun hh => ?_) | refine wz9 (fun hh => ?_) (fun hh => ?_) | refine wz7 (fun hh => ?_) (fun hh => ?_)) <;> (try replace hh := vqs hh) <;> (try (exfalso; first | exact hh | omega))))
    refine wpB_loop (fun e H => ∃ j : Nat, j ≤ ss.length ∧ e 0 = .int .i64 kind ∧ e 1 = .str tag ∧ e 5 = .int .i64 k ∧ e 7 = .sl false (l.map stD) ∧ e 8 = .sl false (l.map stD) ∧ e 9 = .int .i64 i ∧ e 10 = .int .i64 j) (fun e H => ss.length - natOf (e 10)) ?_ ?_
    · exact ⟨0, by omega, gs, gs, gs, gs, gs, gs, gs⟩
    have e9o := e9
    clear e0 e1 e5 e7 e8 e9
    rintro e H ⟨j, hj, e0, e1, e5, e7, e8, e9, e10⟩ R3 hR3
    by_cases hbj : j < ss.length
    case neg =>
      repeat' (first | refine wz1 ?_ | refine wz2 ?_ | refine wz3 ?_ | refine wz4 ?_ | refine wz5 ?_ | refine wz6 ?_ | simp -dsimp (maxSteps:=999999) (disch:=omega) only[go_sem,simprocAttr, *] | ((first | refine wz8 (fun hh => ?_) (fun hh => ?_) | refine wz9 (fun hh => ?_) (fun hh => ?_) | refine wz7 (fun hh => ?_) (fun hh => ?_)) <;> (try replace hh := vqs hh) <;> (try (exfalso; first | exact hh | omega))))
      refine hR2 _ _ ⟨i + 1, by omega, gs, gs, gs, gs, gs, gs⟩ ?_
      simp -dsimp (maxSteps:=999999) (disch:=omega) only[go_sem,simprocAttr, *,natOf_int]
    have hcj := str_get hbj
    generalize ss[j] = y at hcj
    obtain ⟨b, b1, b2⟩ := bit_all y
    have q5 : (b != b) = false := by simp
    repeat' (first | refine wz1 ?_ | refine wz2 ?_ | refine wz3 ?_ | refine wz4 ?_ | refine wz5 ?_ | refine wz6 ?_ | simp -dsimp (maxSteps:=999999) (disch:=omega) only[go_sem,simprocAttr, *] | ((first | refine wz8 (fun hh => ?_) (fun hh => ?_) | refine wz9 (fun hh => ?_) (fun hh => ?_) | refine wz7 (fun hh => ?_) (fun hh => ?_)) <;> (try replace hh := vqs hh) <;> (try (exfalso; first | exact hh | omega))))
    refine wpB_regionXL (prs := []) (by kernel_rfl) rfl (by kernel_rfl) ?_; simp -dsimp (maxSteps:=999999) (disch:=omega) only[go_sem,simprocAttr, *]
    refine ⟨fun _ => rfl, evB_plain bo18 rfl rfl rfl b1 ?_⟩
    simp -dsimp (maxSteps:=999999) (disch:=omega) only[go_sem,simprocAttr, *]
    refine ⟨fun _ => rfl, evB_plain bo19 rfl rfl rfl b2 ?_⟩
    repeat' (first | refine wz1 ?_ | refine wz2 ?_ | refine wz3 ?_ | refine wz4 ?_ | refine wz5 ?_ | refine wz6 ?_ | simp -dsimp (maxSteps:=999999) (disch:=omega) only[go_sem,simprocAttr, *] | ((first | refine wz8 (fun hh => ?_) (fun hh => ?_) | refine wz9 (fun hh => ?_) (fun hh => ?_) | refine wz7 (fun hh => ?_) (fun hh => ?_)) <;> (try replace hh := vqs hh) <;> (try (exfalso; first | exact hh | omega))))
    refine hR3 _ _ ⟨j + 1, by omega, gs, gs, gs, gs, gs, gs, gs⟩ ?_
    simp -dsimp (maxSteps:=999999) (disch:=omega) only[go_sem,simprocAttr, *,natOf_int]
end Go.Proofs.W
