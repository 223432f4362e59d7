/- Texts that stand behind this claim, one after the other. -/
import Derived.Test.YtcacifbfoifojaaM5
import Derived.Test.YtcacifbfoifojaaM8
import Derived.Test.YtcacifbfoifojaaM7
import Derived.HandedShaped
import Derived.LaidLaws
/- The law on closed sets of states. -/
section
set_option maxHeartbeats 4000000
set_option linter.unusedVariables false
set_option linter.unusedSimpArgs false
namespace Go.Proofs.W
open Go Vm Go.Proofs.Zs06

def greatE (l : List Rx) : Bool := decide (20 < l.length) || l.any (greatR 20)
theorem any_drop {p : Rx → Bool} {l : List Rx} {j : Nat} (h : j < l.length) : (l.drop j).any p = (p l[j] || (l.drop (j + 1)).any p) := by
  rw [List.drop_eq_getElem_cons h]; rfl
theorem strip_rxsD (l : List Rx) : stripL [rxsD l] = some [rxsD l] := strip1 (by simp [rxsD, strip, strip_rxs])
theorem greatE_ok (l : List Rx) : PureF Try.prog A 8 [rxsD l] (.bool (greatE l)) := by
  refine evF_inB (n := 18) (rs := [.tmp 2]) Try.func8 rfl rfl rfl rfl rfl rfl ?_
  by_cases c1 : l.length ≤ 20
  case neg =>
    have : greatE l = true := by simp [greatE]; omega
    rw [this]
    repeat' (first | refine wpB_seq ?_ | refine wpB_regionL rfl ?_ | refine wpB_block ?_ | refine wpB_skip ?_ | refine wpB_exit ?_ | refine wpB_ret ?_ | simp (maxSteps := 1000000) (dsimp := false) (disch := omega) only [go_sem, simprocAttr, *, rxsD] | ((first | refine stepsB_both (fun hh => ?_) (fun hh => ?_) | refine stepsXB_both (fun hh => ?_) (fun hh => ?_)) <;> (try simp (maxSteps := 1000000) (dsimp := false) (disch := omega) only [go_sem, simprocAttr, decide_eq_true_eq, decide_eq_false_iff_not, Bool.not_eq_true, Bool.not_eq_false, Bool.not_eq_true', Bool.not_eq_false', Int.not_lt, Int.not_le, bne_iff_ne, bne_eq_false_iff_eq, beq_iff_eq, beq_eq_false_iff_ne, ne_eq, Int.ofNat_inj, Int.natCast_inj] at hh) <;> (try (exfalso; omega))) | (refine wpB_cond (by simp (maxSteps := 1000000) (dsimp := false) (disch := omega) only [go_sem, simprocAttr, *, rxsD]; exact rfl) (fun hh => ?_) (fun hh => ?_) <;> (try simp (maxSteps := 1000000) (dsimp := false) (disch := omega) only [go_sem, simprocAttr, decide_eq_true_eq, decide_eq_false_iff_not, Bool.not_eq_true, Bool.not_eq_false, Bool.not_eq_true', Bool.not_eq_false', Int.not_lt, Int.not_le, bne_iff_ne, bne_eq_false_iff_eq, beq_iff_eq, beq_eq_false_iff_ne, ne_eq, Int.ofNat_inj, Int.natCast_inj] at hh) <;> (try (exfalso; omega))))
  have hz : greatE l = (l.drop 0).any (greatR 20) := by simp [greatE]; omega
  rw [hz]
  generalize hG : (l.drop 0).any (greatR 20) = G
  clear hz
  repeat' (first | refine wpB_seq ?_ | refine wpB_regionL rfl ?_ | refine wpB_block ?_ | refine wpB_skip ?_ | refine wpB_exit ?_ | refine wpB_ret ?_ | simp (maxSteps := 1000000) (dsimp := false) (disch := omega) only [go_sem, simprocAttr, *, rxsD] | ((first | refine stepsB_both (fun hh => ?_) (fun hh => ?_) | refine stepsXB_both (fun hh => ?_) (fun hh => ?_)) <;> (try simp (maxSteps := 1000000) (dsimp := false) (disch := omega) only [go_sem, simprocAttr, decide_eq_true_eq, decide_eq_false_iff_not, Bool.not_eq_true, Bool.not_eq_false, Bool.not_eq_true', Bool.not_eq_false', Int.not_lt, Int.not_le, bne_iff_ne, bne_eq_false_iff_eq, beq_iff_eq, beq_eq_false_iff_ne, ne_eq, Int.ofNat_inj, Int.natCast_inj] at hh) <;> (try (exfalso; omega))) | (refine wpB_cond (by simp (maxSteps := 1000000) (dsimp := false) (disch := omega) only [go_sem, simprocAttr, *, rxsD]; exact rfl) (fun hh => ?_) (fun hh => ?_) <;> (try simp (maxSteps := 1000000) (dsimp := false) (disch := omega) only [go_sem, simprocAttr, decide_eq_true_eq, decide_eq_false_iff_not, Bool.not_eq_true, Bool.not_eq_false, Bool.not_eq_true', Bool.not_eq_false', Int.not_lt, Int.not_le, bne_iff_ne, bne_eq_false_iff_eq, beq_iff_eq, beq_eq_false_iff_ne, ne_eq, Int.ofNat_inj, Int.natCast_inj] at hh) <;> (try (exfalso; omega))))
  refine wpB_loop (fun e H => ∃ j : Nat, j ≤ l.length ∧ e 0 = rxsD l ∧ e 3 = .int .i64 j ∧ G = (l.drop j).any (greatR 20)) (fun e H => l.length - natOf (e 3)) ?_ ?_
  · exact ⟨0, by omega, by simp (maxSteps := 1000000) (dsimp := false) (disch := omega) only [go_sem, simprocAttr, *, rxsD], by simp (maxSteps := 1000000) (dsimp := false) (disch := omega) only [go_sem, simprocAttr, *], hG.symm⟩
  · clear hG
    rintro e H ⟨j, hj, e0, e3, hG⟩ R hR
    by_cases hb : j < l.length
    · have hx : (rxDs l)[j]? = some (rxD l[j]) := by rw [rxDs_at, List.getElem?_eq_getElem hb]; rfl
      have q1 := rx_cells l[j]
      have q2 := rx_aggQ l[j]
      have q3 := rx_noTup l[j]
      have hgr := great_ok 20 (by omega) l[j]
      have hst := strip2 (strip_rx l[j]) (strip_int (k := .i64) (n := 20))
      rw [any_drop hb] at hG
      rw [show ((20 : Nat) : Int) = 20 from rfl] at hgr
      generalize rxD l[j] = dk at *
      repeat' (first | refine wpB_seq ?_ | refine wpB_regionL rfl ?_ | refine wpB_block ?_ | refine wpB_skip ?_ | refine wpB_exit ?_ | refine wpB_ret ?_ | simp (maxSteps := 1000000) (dsimp := false) (disch := omega) only [go_sem, simprocAttr, *, rxsD] | ((first | refine stepsB_both (fun hh => ?_) (fun hh => ?_) | refine stepsXB_both (fun hh => ?_) (fun hh => ?_)) <;> (try simp (maxSteps := 1000000) (dsimp := false) (disch := omega) only [go_sem, simprocAttr, decide_eq_true_eq, decide_eq_false_iff_not, Bool.not_eq_true, Bool.not_eq_false, Bool.not_eq_true', Bool.not_eq_false', Int.not_lt, Int.not_le, bne_iff_ne, bne_eq_false_iff_eq, beq_iff_eq, beq_eq_false_iff_ne, ne_eq, Int.ofNat_inj, Int.natCast_inj] at hh) <;> (try (exfalso; omega))) | (refine wpB_cond (by simp (maxSteps := 1000000) (dsimp := false) (disch := omega) only [go_sem, simprocAttr, *, rxsD]; exact rfl) (fun hh => ?_) (fun hh => ?_) <;> (try simp (maxSteps := 1000000) (dsimp := false) (disch := omega) only [go_sem, simprocAttr, decide_eq_true_eq, decide_eq_false_iff_not, Bool.not_eq_true, Bool.not_eq_false, Bool.not_eq_true', Bool.not_eq_false', Int.not_lt, Int.not_le, bne_iff_ne, bne_eq_false_iff_eq, beq_iff_eq, beq_eq_false_iff_ne, ne_eq, Int.ofNat_inj, Int.natCast_inj] at hh) <;> (try (exfalso; omega))))
      refine evB_plain bo24 rfl rfl hst hgr ?_
      cases hq : greatR 20 l[j] with
      | true =>
        rw [hq, Bool.true_or] at hG
        rw [hG]
        repeat' (first | refine wpB_seq ?_ | refine wpB_regionL rfl ?_ | refine wpB_block ?_ | refine wpB_skip ?_ | refine wpB_exit ?_ | refine wpB_ret ?_ | simp (maxSteps := 1000000) (dsimp := false) (disch := omega) only [go_sem, simprocAttr, *] | ((first | refine stepsB_both (fun hh => ?_) (fun hh => ?_) | refine stepsXB_both (fun hh => ?_) (fun hh => ?_)) <;> (try simp (maxSteps := 1000000) (dsimp := false) (disch := omega) only [go_sem, simprocAttr, decide_eq_true_eq, decide_eq_false_iff_not, Bool.not_eq_true, Bool.not_eq_false, Bool.not_eq_true', Bool.not_eq_false', Int.not_lt, Int.not_le, bne_iff_ne, bne_eq_false_iff_eq, beq_iff_eq, beq_eq_false_iff_ne, ne_eq, Int.ofNat_inj, Int.natCast_inj] at hh) <;> (try (exfalso; omega))) | (refine wpB_cond (by simp (maxSteps := 1000000) (dsimp := false) (disch := omega) only [go_sem, simprocAttr, *]; exact rfl) (fun hh => ?_) (fun hh => ?_) <;> (try simp (maxSteps := 1000000) (dsimp := false) (disch := omega) only [go_sem, simprocAttr, decide_eq_true_eq, decide_eq_false_iff_not, Bool.not_eq_true, Bool.not_eq_false, Bool.not_eq_true', Bool.not_eq_false', Int.not_lt, Int.not_le, bne_iff_ne, bne_eq_false_iff_eq, beq_iff_eq, beq_eq_false_iff_ne, ne_eq, Int.ofNat_inj, Int.natCast_inj] at hh) <;> (try (exfalso; omega))))
      | false =>
        rw [hq, Bool.false_or] at hG
        repeat' (first | refine wpB_seq ?_ | refine wpB_regionL rfl ?_ | refine wpB_block ?_ | refine wpB_skip ?_ | refine wpB_exit ?_ | refine wpB_ret ?_ | simp (maxSteps := 1000000) (dsimp := false) (disch := omega) only [go_sem, simprocAttr, *] | ((first | refine stepsB_both (fun hh => ?_) (fun hh => ?_) | refine stepsXB_both (fun hh => ?_) (fun hh => ?_)) <;> (try simp (maxSteps := 1000000) (dsimp := false) (disch := omega) only [go_sem, simprocAttr, decide_eq_true_eq, decide_eq_false_iff_not, Bool.not_eq_true, Bool.not_eq_false, Bool.not_eq_true', Bool.not_eq_false', Int.not_lt, Int.not_le, bne_iff_ne, bne_eq_false_iff_eq, beq_iff_eq, beq_eq_false_iff_ne, ne_eq, Int.ofNat_inj, Int.natCast_inj] at hh) <;> (try (exfalso; omega))) | (refine wpB_cond (by simp (maxSteps := 1000000) (dsimp := false) (disch := omega) only [go_sem, simprocAttr, *]; exact rfl) (fun hh => ?_) (fun hh => ?_) <;> (try simp (maxSteps := 1000000) (dsimp := false) (disch := omega) only [go_sem, simprocAttr, decide_eq_true_eq, decide_eq_false_iff_not, Bool.not_eq_true, Bool.not_eq_false, Bool.not_eq_true', Bool.not_eq_false', Int.not_lt, Int.not_le, bne_iff_ne, bne_eq_false_iff_eq, beq_iff_eq, beq_eq_false_iff_ne, ne_eq, Int.ofNat_inj, Int.natCast_inj] at hh) <;> (try (exfalso; omega))))
        refine hR _ _ ⟨j + 1, by omega, by simp (maxSteps := 1000000) (dsimp := false) (disch := omega) only [go_sem, simprocAttr, *, rxsD], by simp (maxSteps := 1000000) (dsimp := false) (disch := omega) only [go_sem, simprocAttr, *], hG⟩ ?_
        simp (maxSteps := 1000000) (dsimp := false) (disch := omega) only [go_sem, simprocAttr, *, natOf_int]
    · rw [List.drop_eq_nil_of_le (by omega)] at hG
      have : G = false := hG
      rw [this]
      repeat' (first | refine wpB_seq ?_ | refine wpB_regionL rfl ?_ | refine wpB_block ?_ | refine wpB_skip ?_ | refine wpB_exit ?_ | refine wpB_ret ?_ | simp (maxSteps := 1000000) (dsimp := false) (disch := omega) only [go_sem, simprocAttr, *, rxsD] | ((first | refine stepsB_both (fun hh => ?_) (fun hh => ?_) | refine stepsXB_both (fun hh => ?_) (fun hh => ?_)) <;> (try simp (maxSteps := 1000000) (dsimp := false) (disch := omega) only [go_sem, simprocAttr, decide_eq_true_eq, decide_eq_false_iff_not, Bool.not_eq_true, Bool.not_eq_false, Bool.not_eq_true', Bool.not_eq_false', Int.not_lt, Int.not_le, bne_iff_ne, bne_eq_false_iff_eq, beq_iff_eq, beq_eq_false_iff_ne, ne_eq, Int.ofNat_inj, Int.natCast_inj] at hh) <;> (try (exfalso; omega))) | (refine wpB_cond (by simp (maxSteps := 1000000) (dsimp := false) (disch := omega) only [go_sem, simprocAttr, *, rxsD]; exact rfl) (fun hh => ?_) (fun hh => ?_) <;> (try simp (maxSteps := 1000000) (dsimp := false) (disch := omega) only [go_sem, simprocAttr, decide_eq_true_eq, decide_eq_false_iff_not, Bool.not_eq_true, Bool.not_eq_false, Bool.not_eq_true', Bool.not_eq_false', Int.not_lt, Int.not_le, bne_iff_ne, bne_eq_false_iff_eq, beq_iff_eq, beq_eq_false_iff_ne, ne_eq, Int.ofNat_inj, Int.natCast_inj] at hh) <;> (try (exfalso; omega))))
theorem clos_clos (n : Nfa) (l : List Int) : clos n (clos n l) = clos n l := by
  unfold clos
  congr 1
  funext s
  refine Bool.eq_iff_iff.2 ?_
  rw [clo_iff, clo_iff]
  constructor
  · refine fun h => h.sub fun x hx => ?_
    obtain ⟨i, h1, h2, h3⟩ := mem_listZ.1 hx.2
    obtain rfl : x = i := by omega
    exact clo_iff.1 h2
  · refine fun h => h.sub fun x hx => .base ⟨hx.1, mem_listZ.2 ⟨x, hx.1, clo_iff.2 (.base hx), rfl⟩⟩
theorem clos_has {n : Nfa} {l : List Int} {s : Int} (hs : s ∈ l) (h0 : 0 ≤ s) (h1 : s < n.set.length) : s ∈ clos n l :=
  mem_listZ.2 ⟨s.toNat, by omega, clo_iff.2 (.base ⟨by omega, by rw [show ((s.toNat : Nat) : Int) = s by omega]; exact hs⟩), by omega⟩
theorem zrN6 : zeroT Try.prog 29 = some (.agg [.sl true [], .sl true [], .sl true [], .sl true []]) := by kernel_rfl
theorem stripII (a b : List Int) : stripL [isD a, isD b] = some [isD a, isD b] := strip2 (strip_is a) (strip_is b)
theorem closes_law (l : List Rx) (hok : greatE l = false → ∀ r ∈ l, okR r) (st : List Int) : Yes 6 [rxsD l, isD st] := by
  have est : isD st = .sl false (st.map (.int .i64)) := rfl
  refine evF_inB (n := 76) (rs := [.tmp 4]) Try.func6 rfl rfl rfl rfl rfl rfl ?_
  repeat' (first | refine wpB_seq ?_ | refine wpB_regionL rfl ?_ | refine wpB_block ?_ | refine wpB_skip ?_ | refine wpB_exit ?_ | refine wpB_ret ?_ | simp (maxSteps := 1000000) (dsimp := false) (disch := omega) only [go_sem, simprocAttr, *] | ((first | refine stepsB_both (fun hh => ?_) (fun hh => ?_) | refine stepsXB_both (fun hh => ?_) (fun hh => ?_)) <;> (try simp (maxSteps := 1000000) (dsimp := false) (disch := omega) only [go_sem, simprocAttr, decide_eq_true_eq, decide_eq_false_iff_not, Bool.not_eq_true, Bool.not_eq_false, Bool.not_eq_true', Bool.not_eq_false', Int.not_lt, Int.not_le, bne_iff_ne, bne_eq_false_iff_eq, beq_iff_eq, beq_eq_false_iff_ne, ne_eq, Int.ofNat_inj, Int.natCast_inj] at hh) <;> (try (exfalso; omega))) | (refine wpB_cond (by simp (maxSteps := 1000000) (dsimp := false) (disch := omega) only [go_sem, simprocAttr, *]; exact rfl) (fun hh => ?_) (fun hh => ?_) <;> (try simp (maxSteps := 1000000) (dsimp := false) (disch := omega) only [go_sem, simprocAttr, decide_eq_true_eq, decide_eq_false_iff_not, Bool.not_eq_true, Bool.not_eq_false, Bool.not_eq_true', Bool.not_eq_false', Int.not_lt, Int.not_le, bne_iff_ne, bne_eq_false_iff_eq, beq_iff_eq, beq_eq_false_iff_ne, ne_eq, Int.ofNat_inj, Int.natCast_inj] at hh) <;> (try (exfalso; omega))))
  refine evB_plain bo7 rfl rfl rfl alive_ok ?_
  repeat' (first | refine wpB_seq ?_ | refine wpB_regionL rfl ?_ | refine wpB_block ?_ | refine wpB_skip ?_ | refine wpB_exit ?_ | refine wpB_ret ?_ | simp (maxSteps := 1000000) (dsimp := false) (disch := omega) only [go_sem, simprocAttr, *] | ((first | refine stepsB_both (fun hh => ?_) (fun hh => ?_) | refine stepsXB_both (fun hh => ?_) (fun hh => ?_)) <;> (try simp (maxSteps := 1000000) (dsimp := false) (disch := omega) only [go_sem, simprocAttr, decide_eq_true_eq, decide_eq_false_iff_not, Bool.not_eq_true, Bool.not_eq_false, Bool.not_eq_true', Bool.not_eq_false', Int.not_lt, Int.not_le, bne_iff_ne, bne_eq_false_iff_eq, beq_iff_eq, beq_eq_false_iff_ne, ne_eq, Int.ofNat_inj, Int.natCast_inj] at hh) <;> (try (exfalso; omega))) | (refine wpB_cond (by simp (maxSteps := 1000000) (dsimp := false) (disch := omega) only [go_sem, simprocAttr, *]; exact rfl) (fun hh => ?_) (fun hh => ?_) <;> (try simp (maxSteps := 1000000) (dsimp := false) (disch := omega) only [go_sem, simprocAttr, decide_eq_true_eq, decide_eq_false_iff_not, Bool.not_eq_true, Bool.not_eq_false, Bool.not_eq_true', Bool.not_eq_false', Int.not_lt, Int.not_le, bne_iff_ne, bne_eq_false_iff_eq, beq_iff_eq, beq_eq_false_iff_ne, ne_eq, Int.ofNat_inj, Int.natCast_inj] at hh) <;> (try (exfalso; omega))))
  refine evB_plain bo8 rfl rfl (strip_rxsD l) (greatE_ok l) ?_
  cases hg : greatE l with
  | true => repeat' (first | refine wpB_seq ?_ | refine wpB_regionL rfl ?_ | refine wpB_block ?_ | refine wpB_skip ?_ | refine wpB_exit ?_ | refine wpB_ret ?_ | simp (maxSteps := 1000000) (dsimp := false) (disch := omega) only [go_sem, simprocAttr, *] | ((first | refine stepsB_both (fun hh => ?_) (fun hh => ?_) | refine stepsXB_both (fun hh => ?_) (fun hh => ?_)) <;> (try simp (maxSteps := 1000000) (dsimp := false) (disch := omega) only [go_sem, simprocAttr, decide_eq_true_eq, decide_eq_false_iff_not, Bool.not_eq_true, Bool.not_eq_false, Bool.not_eq_true', Bool.not_eq_false', Int.not_lt, Int.not_le, bne_iff_ne, bne_eq_false_iff_eq, beq_iff_eq, beq_eq_false_iff_ne, ne_eq, Int.ofNat_inj, Int.natCast_inj] at hh) <;> (try (exfalso; omega))) | (refine wpB_cond (by simp (maxSteps := 1000000) (dsimp := false) (disch := omega) only [go_sem, simprocAttr, *]; exact rfl) (fun hh => ?_) (fun hh => ?_) <;> (try simp (maxSteps := 1000000) (dsimp := false) (disch := omega) only [go_sem, simprocAttr, decide_eq_true_eq, decide_eq_false_iff_not, Bool.not_eq_true, Bool.not_eq_false, Bool.not_eq_true', Bool.not_eq_false', Int.not_lt, Int.not_le, bne_iff_ne, bne_eq_false_iff_eq, beq_iff_eq, beq_eq_false_iff_ne, ne_eq, Int.ofNat_inj, Int.natCast_inj] at hh) <;> (try (exfalso; omega))))
  | false =>
    have hr := hok hg
    have hl20 : l.length ≤ 20 := by simp only [greatE, Bool.or_eq_false_iff, decide_eq_false_iff_not] at hg; omega
    have hB := build_ok l hr (by omega)
    clear hok hg
    repeat' (first | refine wpB_seq ?_ | refine wpB_regionL rfl ?_ | refine wpB_block ?_ | refine wpB_skip ?_ | refine wpB_exit ?_ | refine wpB_ret ?_ | simp (maxSteps := 1000000) (dsimp := false) (disch := omega) only [go_sem, simprocAttr, *] | ((first | refine stepsB_both (fun hh => ?_) (fun hh => ?_) | refine stepsXB_both (fun hh => ?_) (fun hh => ?_)) <;> (try simp (maxSteps := 1000000) (dsimp := false) (disch := omega) only [go_sem, simprocAttr, decide_eq_true_eq, decide_eq_false_iff_not, Bool.not_eq_true, Bool.not_eq_false, Bool.not_eq_true', Bool.not_eq_false', Int.not_lt, Int.not_le, bne_iff_ne, bne_eq_false_iff_eq, beq_iff_eq, beq_eq_false_iff_ne, ne_eq, Int.ofNat_inj, Int.natCast_inj] at hh) <;> (try (exfalso; omega))) | (refine wpB_cond (by simp (maxSteps := 1000000) (dsimp := false) (disch := omega) only [go_sem, simprocAttr, *]; exact rfl) (fun hh => ?_) (fun hh => ?_) <;> (try simp (maxSteps := 1000000) (dsimp := false) (disch := omega) only [go_sem, simprocAttr, decide_eq_true_eq, decide_eq_false_iff_not, Bool.not_eq_true, Bool.not_eq_false, Bool.not_eq_true', Bool.not_eq_false', Int.not_lt, Int.not_le, bne_iff_ne, bne_eq_false_iff_eq, beq_iff_eq, beq_eq_false_iff_ne, ne_eq, Int.ofNat_inj, Int.natCast_inj] at hh) <;> (try (exfalso; omega))))
    refine evB_plain bo9 rfl rfl (strip_rxsD l) hB ?_
    cases hb : buildN l with
    | none =>
      have a1 := nfa_noTup emptyN
      have a2 : (nfaD emptyN).cells = [.sl false (emptyN.free.map isD), .sl false (emptyN.set.map (.int .u16)), isD emptyN.to, isD emptyN.rule] := rfl
      have a3 := nfa_aggQ emptyN
      repeat' (first | refine wpB_seq ?_ | refine wpB_regionL rfl ?_ | refine wpB_block ?_ | refine wpB_skip ?_ | refine wpB_exit ?_ | refine wpB_ret ?_ | simp (maxSteps := 1000000) (dsimp := false) (disch := omega) only [go_sem, simprocAttr, *, builtD, zrN6] | ((first | refine stepsB_both (fun hh => ?_) (fun hh => ?_) | refine stepsXB_both (fun hh => ?_) (fun hh => ?_)) <;> (try simp (maxSteps := 1000000) (dsimp := false) (disch := omega) only [go_sem, simprocAttr, decide_eq_true_eq, decide_eq_false_iff_not, Bool.not_eq_true, Bool.not_eq_false, Bool.not_eq_true', Bool.not_eq_false', Int.not_lt, Int.not_le, bne_iff_ne, bne_eq_false_iff_eq, beq_iff_eq, beq_eq_false_iff_ne, ne_eq, Int.ofNat_inj, Int.natCast_inj] at hh) <;> (try (exfalso; omega))) | (refine wpB_cond (by simp (maxSteps := 1000000) (dsimp := false) (disch := omega) only [go_sem, simprocAttr, *, builtD, zrN6]; exact rfl) (fun hh => ?_) (fun hh => ?_) <;> (try simp (maxSteps := 1000000) (dsimp := false) (disch := omega) only [go_sem, simprocAttr, decide_eq_true_eq, decide_eq_false_iff_not, Bool.not_eq_true, Bool.not_eq_false, Bool.not_eq_true', Bool.not_eq_false', Int.not_lt, Int.not_le, bne_iff_ne, bne_eq_false_iff_eq, beq_iff_eq, beq_eq_false_iff_ne, ne_eq, Int.ofNat_inj, Int.natCast_inj] at hh) <;> (try (exfalso; omega))))
    | some n =>
      obtain ⟨g1, g2, g3, g4⟩ := build_right hb
      have a1 := nfa_noTup n
      have a2 : (nfaD n).cells = [.sl false (n.free.map isD), .sl false (n.set.map (.int .u16)), isD n.to, isD n.rule] := rfl
      have a3 := nfa_aggQ n
      have hC := close_ok n st g2 (by omega)
      have hC2 := close_ok n (clos n st) g2 (by have := clos_len n st; have := g2.len; omega)
      have hI := ints_ok (clos n st) (clos n st) (by have := clos_len n st; have := g2.len; omega)
      have hcl := clos_len n st
      have hlen := g2.len
      simp only [closeN, g3, if_true, clos_clos] at hC hC2
      simp only [beq_self_eq_true] at hI
      have hin : ∀ s ∈ st, s < 0 ∨ (n.set.length : Int) ≤ s ∨ s ∈ clos n st := fun s hs => by
        by_cases h0 : 0 ≤ s
        · by_cases h1 : s < n.set.length
          · exact .inr (.inr (clos_has hs h0 h1))
          · exact .inr (.inl (by omega))
        · exact .inl (by omega)
      repeat' (first | refine wpB_seq ?_ | refine wpB_regionL rfl ?_ | refine wpB_block ?_ | refine wpB_skip ?_ | refine wpB_exit ?_ | refine wpB_ret ?_ | simp (maxSteps := 1000000) (dsimp := false) (disch := omega) only [go_sem, simprocAttr, *, builtD, zrN6] | ((first | refine stepsB_both (fun hh => ?_) (fun hh => ?_) | refine stepsXB_both (fun hh => ?_) (fun hh => ?_)) <;> (try simp (maxSteps := 1000000) (dsimp := false) (disch := omega) only [go_sem, simprocAttr, decide_eq_true_eq, decide_eq_false_iff_not, Bool.not_eq_true, Bool.not_eq_false, Bool.not_eq_true', Bool.not_eq_false', Int.not_lt, Int.not_le, bne_iff_ne, bne_eq_false_iff_eq, beq_iff_eq, beq_eq_false_iff_ne, ne_eq, Int.ofNat_inj, Int.natCast_inj] at hh) <;> (try (exfalso; omega))) | (refine wpB_cond (by simp (maxSteps := 1000000) (dsimp := false) (disch := omega) only [go_sem, simprocAttr, *, builtD, zrN6]; exact rfl) (fun hh => ?_) (fun hh => ?_) <;> (try simp (maxSteps := 1000000) (dsimp := false) (disch := omega) only [go_sem, simprocAttr, decide_eq_true_eq, decide_eq_false_iff_not, Bool.not_eq_true, Bool.not_eq_false, Bool.not_eq_true', Bool.not_eq_false', Int.not_lt, Int.not_le, bne_iff_ne, bne_eq_false_iff_eq, beq_iff_eq, beq_eq_false_iff_ne, ne_eq, Int.ofNat_inj, Int.natCast_inj] at hh) <;> (try (exfalso; omega))))
      refine evB_plain bo16 rfl rfl (stripNI n st) hC ?_
      generalize hcc : clos n st = c at *
      have ec : isD c = .sl false (c.map (.int .i64)) := rfl
      repeat' (first | refine wpB_seq ?_ | refine wpB_regionL rfl ?_ | refine wpB_block ?_ | refine wpB_skip ?_ | refine wpB_exit ?_ | refine wpB_ret ?_ | simp (maxSteps := 1000000) (dsimp := false) (disch := omega) only [go_sem, simprocAttr, *] | ((first | refine stepsB_both (fun hh => ?_) (fun hh => ?_) | refine stepsXB_both (fun hh => ?_) (fun hh => ?_)) <;> (try simp (maxSteps := 1000000) (dsimp := false) (disch := omega) only [go_sem, simprocAttr, decide_eq_true_eq, decide_eq_false_iff_not, Bool.not_eq_true, Bool.not_eq_false, Bool.not_eq_true', Bool.not_eq_false', Int.not_lt, Int.not_le, bne_iff_ne, bne_eq_false_iff_eq, beq_iff_eq, beq_eq_false_iff_ne, ne_eq, Int.ofNat_inj, Int.natCast_inj] at hh) <;> (try (exfalso; omega))) | (refine wpB_cond (by simp (maxSteps := 1000000) (dsimp := false) (disch := omega) only [go_sem, simprocAttr, *]; exact rfl) (fun hh => ?_) (fun hh => ?_) <;> (try simp (maxSteps := 1000000) (dsimp := false) (disch := omega) only [go_sem, simprocAttr, decide_eq_true_eq, decide_eq_false_iff_not, Bool.not_eq_true, Bool.not_eq_false, Bool.not_eq_true', Bool.not_eq_false', Int.not_lt, Int.not_le, bne_iff_ne, bne_eq_false_iff_eq, beq_iff_eq, beq_eq_false_iff_ne, ne_eq, Int.ofNat_inj, Int.natCast_inj] at hh) <;> (try (exfalso; omega))))
      refine wpB_loop (fun e H => ∃ j : Nat, j ≤ st.length ∧ H = [Ob.arr [nfaD n]] ∧ e 1 = isD st ∧ e 5 = .ptr 0 0 0 ∧ e 7 = isD c ∧ e 8 = .int .i64 j) (fun e H => st.length - natOf (e 8)) ?_ ?_
      · exact ⟨0, by omega, by simp (maxSteps := 1000000) (dsimp := false) (disch := omega) only [go_sem, simprocAttr, *], by simp (maxSteps := 1000000) (dsimp := false) (disch := omega) only [go_sem, simprocAttr, *], by simp (maxSteps := 1000000) (dsimp := false) (disch := omega) only [go_sem, simprocAttr, *], by simp (maxSteps := 1000000) (dsimp := false) (disch := omega) only [go_sem, simprocAttr, *], by simp (maxSteps := 1000000) (dsimp := false) (disch := omega) only [go_sem, simprocAttr, *]⟩
      rintro e H ⟨j, hj, rfl, e1, e5, e7, e8⟩ R hR
      by_cases hb1 : j < st.length
      · have hin1 := hin st[j] (List.getElem_mem hb1)
        repeat' (first | refine wpB_seq ?_ | refine wpB_regionL rfl ?_ | refine wpB_block ?_ | refine wpB_skip ?_ | refine wpB_exit ?_ | refine wpB_ret ?_ | simp (maxSteps := 1000000) (dsimp := false) (disch := omega) only [go_sem, simprocAttr, *] | ((first | refine stepsB_both (fun hh => ?_) (fun hh => ?_) | refine stepsXB_both (fun hh => ?_) (fun hh => ?_)) <;> (try simp (maxSteps := 1000000) (dsimp := false) (disch := omega) only [go_sem, simprocAttr, decide_eq_true_eq, decide_eq_false_iff_not, Bool.not_eq_true, Bool.not_eq_false, Bool.not_eq_true', Bool.not_eq_false', Int.not_lt, Int.not_le, bne_iff_ne, bne_eq_false_iff_eq, beq_iff_eq, beq_eq_false_iff_ne, ne_eq, Int.ofNat_inj, Int.natCast_inj] at hh) <;> (try (exfalso; omega))) | (refine wpB_cond (by simp (maxSteps := 1000000) (dsimp := false) (disch := omega) only [go_sem, simprocAttr, *]; exact rfl) (fun hh => ?_) (fun hh => ?_) <;> (try simp (maxSteps := 1000000) (dsimp := false) (disch := omega) only [go_sem, simprocAttr, decide_eq_true_eq, decide_eq_false_iff_not, Bool.not_eq_true, Bool.not_eq_false, Bool.not_eq_true', Bool.not_eq_false', Int.not_lt, Int.not_le, bne_iff_ne, bne_eq_false_iff_eq, beq_iff_eq, beq_eq_false_iff_ne, ne_eq, Int.ofNat_inj, Int.natCast_inj] at hh) <;> (try (exfalso; omega))))
        refine wpB_regionXL (prs := []) (by kernel_rfl) rfl (by kernel_rfl) ?_
        have hlen9 : n.set.length ≤ 100000 := hlen
        clear hin hC2 hI hB g1 g2 g3
        replace hin1 : st[j] < 0 ∨ (n.set.length : Int) ≤ st[j] ∨ ((0 ≤ st[j] ∧ st[j] < (n.set.length : Int)) ∧ st[j] ∈ c) := by
          rcases hin1 with h | h | h
          · exact .inl h
          · exact .inr (.inl h)
          · by_cases h0 : st[j] < 0
            · exact .inl h0
            · by_cases h1 : (n.set.length : Int) ≤ st[j]
              · exact .inr (.inl h1)
              · exact .inr (.inr ⟨⟨by omega, by omega⟩, h⟩)
        rcases hin1 with h | h | ⟨⟨hx1, hx2⟩, h⟩
        · repeat' (first | refine wpB_seq ?_ | refine wpB_regionL rfl ?_ | refine wpB_block ?_ | refine wpB_skip ?_ | refine wpB_exit ?_ | refine wpB_ret ?_ | simp (maxSteps := 1000000) (dsimp := false) (disch := omega) only [go_sem, simprocAttr, *] | ((first | refine stepsB_both (fun hh => ?_) (fun hh => ?_) | refine stepsXB_both (fun hh => ?_) (fun hh => ?_)) <;> (try simp (maxSteps := 1000000) (dsimp := false) (disch := omega) only [go_sem, simprocAttr, decide_eq_true_eq, decide_eq_false_iff_not, Bool.not_eq_true, Bool.not_eq_false, Bool.not_eq_true', Bool.not_eq_false', Int.not_lt, Int.not_le, bne_iff_ne, bne_eq_false_iff_eq, beq_iff_eq, beq_eq_false_iff_ne, ne_eq, Int.ofNat_inj, Int.natCast_inj] at hh) <;> (try (exfalso; omega))) | (refine wpB_cond (by simp (maxSteps := 1000000) (dsimp := false) (disch := omega) only [go_sem, simprocAttr, *]; exact rfl) (fun hh => ?_) (fun hh => ?_) <;> (try simp (maxSteps := 1000000) (dsimp := false) (disch := omega) only [go_sem, simprocAttr, decide_eq_true_eq, decide_eq_false_iff_not, Bool.not_eq_true, Bool.not_eq_false, Bool.not_eq_true', Bool.not_eq_false', Int.not_lt, Int.not_le, bne_iff_ne, bne_eq_false_iff_eq, beq_iff_eq, beq_eq_false_iff_ne, ne_eq, Int.ofNat_inj, Int.natCast_inj] at hh) <;> (try (exfalso; omega))))
          refine wpB_loop (fun e H => ∃ (k : Nat) (b : Bool), k ≤ c.length ∧ H = [Ob.arr [nfaD n]] ∧ e 1 = isD st ∧ e 5 = .ptr 0 0 0 ∧ e 7 = isD c ∧ e 8 = .int .i64 j ∧ e 9 = .bool b ∧ e 10 = .int .i64 k ∧ (b = true ∨ st[j] ∈ c.drop k)) (fun e H => c.length - natOf (e 10)) ?_ ?_
          · exact ⟨0, true, by omega, by simp (maxSteps := 1000000) (dsimp := false) (disch := omega) only [go_sem, simprocAttr, *], by simp (maxSteps := 1000000) (dsimp := false) (disch := omega) only [go_sem, simprocAttr, *], by simp (maxSteps := 1000000) (dsimp := false) (disch := omega) only [go_sem, simprocAttr, *], by simp (maxSteps := 1000000) (dsimp := false) (disch := omega) only [go_sem, simprocAttr, *], by simp (maxSteps := 1000000) (dsimp := false) (disch := omega) only [go_sem, simprocAttr, *], by simp (maxSteps := 1000000) (dsimp := false) (disch := omega) only [go_sem, simprocAttr, *], by simp (maxSteps := 1000000) (dsimp := false) (disch := omega) only [go_sem, simprocAttr, *], .inl rfl⟩
          · rintro e' H ⟨k, b, hk, rfl, e1', e5', e7', e8', e9', e10', hbk⟩ R2 hR2
            by_cases hb2 : k < c.length
            · cases b with
              | true =>
                clear hbk h
                repeat' (first | refine wpB_seq ?_ | refine wpB_regionL rfl ?_ | refine wpB_block ?_ | refine wpB_skip ?_ | refine wpB_exit ?_ | refine wpB_ret ?_ | simp (maxSteps := 1000000) (dsimp := false) (disch := omega) only [go_sem, simprocAttr, *] | ((first | refine stepsB_both (fun hh => ?_) (fun hh => ?_) | refine stepsXB_both (fun hh => ?_) (fun hh => ?_)) <;> (try simp (maxSteps := 1000000) (dsimp := false) (disch := omega) only [go_sem, simprocAttr, decide_eq_true_eq, decide_eq_false_iff_not, Bool.not_eq_true, Bool.not_eq_false, Bool.not_eq_true', Bool.not_eq_false', Int.not_lt, Int.not_le, bne_iff_ne, bne_eq_false_iff_eq, beq_iff_eq, beq_eq_false_iff_ne, ne_eq, Int.ofNat_inj, Int.natCast_inj] at hh) <;> (try (exfalso; omega))) | (refine wpB_cond (by simp (maxSteps := 1000000) (dsimp := false) (disch := omega) only [go_sem, simprocAttr, *]; exact rfl) (fun hh => ?_) (fun hh => ?_) <;> (try simp (maxSteps := 1000000) (dsimp := false) (disch := omega) only [go_sem, simprocAttr, decide_eq_true_eq, decide_eq_false_iff_not, Bool.not_eq_true, Bool.not_eq_false, Bool.not_eq_true', Bool.not_eq_false', Int.not_lt, Int.not_le, bne_iff_ne, bne_eq_false_iff_eq, beq_iff_eq, beq_eq_false_iff_ne, ne_eq, Int.ofNat_inj, Int.natCast_inj] at hh) <;> (try (exfalso; omega))))
                refine wpB_regionXL (prs := []) (by kernel_rfl) rfl (by kernel_rfl) ?_
                repeat' (first | refine wpB_seq ?_ | refine wpB_regionL rfl ?_ | refine wpB_block ?_ | refine wpB_skip ?_ | refine wpB_exit ?_ | refine wpB_ret ?_ | simp (maxSteps := 1000000) (dsimp := false) (disch := omega) only [go_sem, simprocAttr, *] | ((first | refine stepsB_both (fun hh => ?_) (fun hh => ?_) | refine stepsXB_both (fun hh => ?_) (fun hh => ?_)) <;> (try simp (maxSteps := 1000000) (dsimp := false) (disch := omega) only [go_sem, simprocAttr, decide_eq_true_eq, decide_eq_false_iff_not, Bool.not_eq_true, Bool.not_eq_false, Bool.not_eq_true', Bool.not_eq_false', Int.not_lt, Int.not_le, bne_iff_ne, bne_eq_false_iff_eq, beq_iff_eq, beq_eq_false_iff_ne, ne_eq, Int.ofNat_inj, Int.natCast_inj] at hh) <;> (try (exfalso; omega))) | (refine wpB_cond (by simp (maxSteps := 1000000) (dsimp := false) (disch := omega) only [go_sem, simprocAttr, *]; exact rfl) (fun hh => ?_) (fun hh => ?_) <;> (try simp (maxSteps := 1000000) (dsimp := false) (disch := omega) only [go_sem, simprocAttr, decide_eq_true_eq, decide_eq_false_iff_not, Bool.not_eq_true, Bool.not_eq_false, Bool.not_eq_true', Bool.not_eq_false', Int.not_lt, Int.not_le, bne_iff_ne, bne_eq_false_iff_eq, beq_iff_eq, beq_eq_false_iff_ne, ne_eq, Int.ofNat_inj, Int.natCast_inj] at hh) <;> (try (exfalso; omega))))
                refine hR2 _ _ ⟨k + 1, true, by omega, by simp (maxSteps := 1000000) (dsimp := false) (disch := omega) only [go_sem, simprocAttr, *], by simp (maxSteps := 1000000) (dsimp := false) (disch := omega) only [go_sem, simprocAttr, *], by simp (maxSteps := 1000000) (dsimp := false) (disch := omega) only [go_sem, simprocAttr, *], by simp (maxSteps := 1000000) (dsimp := false) (disch := omega) only [go_sem, simprocAttr, *], by simp (maxSteps := 1000000) (dsimp := false) (disch := omega) only [go_sem, simprocAttr, *], by simp (maxSteps := 1000000) (dsimp := false) (disch := omega) only [go_sem, simprocAttr, *], by simp (maxSteps := 1000000) (dsimp := false) (disch := omega) only [go_sem, simprocAttr, *], .inl rfl⟩ ?_
                simp (maxSteps := 1000000) (dsimp := false) (disch := omega) only [go_sem, simprocAttr, *, natOf_int]
              | false =>
                have hm : st[j] ∈ c.drop k := by simpa using hbk
                rw [List.drop_eq_getElem_cons hb2] at hm
                clear hbk h
                by_cases heq : c[k] = st[j]
                · have heq' : (c[k] == st[j]) = true := by simpa using heq
                  clear hm heq
                  repeat' (first | refine wpB_seq ?_ | refine wpB_regionL rfl ?_ | refine wpB_block ?_ | refine wpB_skip ?_ | refine wpB_exit ?_ | refine wpB_ret ?_ | simp (maxSteps := 1000000) (dsimp := false) (disch := omega) only [go_sem, simprocAttr, *] | ((first | refine stepsB_both (fun hh => ?_) (fun hh => ?_) | refine stepsXB_both (fun hh => ?_) (fun hh => ?_)) <;> (try simp (maxSteps := 1000000) (dsimp := false) (disch := omega) only [go_sem, simprocAttr, decide_eq_true_eq, decide_eq_false_iff_not, Bool.not_eq_true, Bool.not_eq_false, Bool.not_eq_true', Bool.not_eq_false', Int.not_lt, Int.not_le, bne_iff_ne, bne_eq_false_iff_eq, beq_iff_eq, beq_eq_false_iff_ne, ne_eq, Int.ofNat_inj, Int.natCast_inj] at hh) <;> (try (exfalso; omega))) | (refine wpB_cond (by simp (maxSteps := 1000000) (dsimp := false) (disch := omega) only [go_sem, simprocAttr, *]; exact rfl) (fun hh => ?_) (fun hh => ?_) <;> (try simp (maxSteps := 1000000) (dsimp := false) (disch := omega) only [go_sem, simprocAttr, decide_eq_true_eq, decide_eq_false_iff_not, Bool.not_eq_true, Bool.not_eq_false, Bool.not_eq_true', Bool.not_eq_false', Int.not_lt, Int.not_le, bne_iff_ne, bne_eq_false_iff_eq, beq_iff_eq, beq_eq_false_iff_ne, ne_eq, Int.ofNat_inj, Int.natCast_inj] at hh) <;> (try (exfalso; omega))))
                  refine wpB_regionXL (prs := []) (by kernel_rfl) rfl (by kernel_rfl) ?_
                  repeat' (first | refine wpB_seq ?_ | refine wpB_regionL rfl ?_ | refine wpB_block ?_ | refine wpB_skip ?_ | refine wpB_exit ?_ | refine wpB_ret ?_ | simp (maxSteps := 1000000) (dsimp := false) (disch := omega) only [go_sem, simprocAttr, *] | ((first | refine stepsB_both (fun hh => ?_) (fun hh => ?_) | refine stepsXB_both (fun hh => ?_) (fun hh => ?_)) <;> (try simp (maxSteps := 1000000) (dsimp := false) (disch := omega) only [go_sem, simprocAttr, decide_eq_true_eq, decide_eq_false_iff_not, Bool.not_eq_true, Bool.not_eq_false, Bool.not_eq_true', Bool.not_eq_false', Int.not_lt, Int.not_le, bne_iff_ne, bne_eq_false_iff_eq, beq_iff_eq, beq_eq_false_iff_ne, ne_eq, Int.ofNat_inj, Int.natCast_inj] at hh) <;> (try (exfalso; omega))) | (refine wpB_cond (by simp (maxSteps := 1000000) (dsimp := false) (disch := omega) only [go_sem, simprocAttr, *]; exact rfl) (fun hh => ?_) (fun hh => ?_) <;> (try simp (maxSteps := 1000000) (dsimp := false) (disch := omega) only [go_sem, simprocAttr, decide_eq_true_eq, decide_eq_false_iff_not, Bool.not_eq_true, Bool.not_eq_false, Bool.not_eq_true', Bool.not_eq_false', Int.not_lt, Int.not_le, bne_iff_ne, bne_eq_false_iff_eq, beq_iff_eq, beq_eq_false_iff_ne, ne_eq, Int.ofNat_inj, Int.natCast_inj] at hh) <;> (try (exfalso; omega))))
                  refine hR2 _ _ ⟨k + 1, true, by omega, by simp (maxSteps := 1000000) (dsimp := false) (disch := omega) only [go_sem, simprocAttr, *], by simp (maxSteps := 1000000) (dsimp := false) (disch := omega) only [go_sem, simprocAttr, *], by simp (maxSteps := 1000000) (dsimp := false) (disch := omega) only [go_sem, simprocAttr, *], by simp (maxSteps := 1000000) (dsimp := false) (disch := omega) only [go_sem, simprocAttr, *], by simp (maxSteps := 1000000) (dsimp := false) (disch := omega) only [go_sem, simprocAttr, *], by simp (maxSteps := 1000000) (dsimp := false) (disch := omega) only [go_sem, simprocAttr, *], by simp (maxSteps := 1000000) (dsimp := false) (disch := omega) only [go_sem, simprocAttr, *], .inl rfl⟩ ?_
                  simp (maxSteps := 1000000) (dsimp := false) (disch := omega) only [go_sem, simprocAttr, *, natOf_int]
                · have heq' : (c[k] == st[j]) = false := by simpa using heq
                  have hm2 : st[j] ∈ c.drop (k + 1) := by
                    rcases List.mem_cons.1 hm with h | h
                    · exact absurd h.symm heq
                    · exact h
                  clear hm heq
                  repeat' (first | refine wpB_seq ?_ | refine wpB_regionL rfl ?_ | refine wpB_block ?_ | refine wpB_skip ?_ | refine wpB_exit ?_ | refine wpB_ret ?_ | simp (maxSteps := 1000000) (dsimp := false) (disch := omega) only [go_sem, simprocAttr, *] | ((first | refine stepsB_both (fun hh => ?_) (fun hh => ?_) | refine stepsXB_both (fun hh => ?_) (fun hh => ?_)) <;> (try simp (maxSteps := 1000000) (dsimp := false) (disch := omega) only [go_sem, simprocAttr, decide_eq_true_eq, decide_eq_false_iff_not, Bool.not_eq_true, Bool.not_eq_false, Bool.not_eq_true', Bool.not_eq_false', Int.not_lt, Int.not_le, bne_iff_ne, bne_eq_false_iff_eq, beq_iff_eq, beq_eq_false_iff_ne, ne_eq, Int.ofNat_inj, Int.natCast_inj] at hh) <;> (try (exfalso; omega))) | (refine wpB_cond (by simp (maxSteps := 1000000) (dsimp := false) (disch := omega) only [go_sem, simprocAttr, *]; exact rfl) (fun hh => ?_) (fun hh => ?_) <;> (try simp (maxSteps := 1000000) (dsimp := false) (disch := omega) only [go_sem, simprocAttr, decide_eq_true_eq, decide_eq_false_iff_not, Bool.not_eq_true, Bool.not_eq_false, Bool.not_eq_true', Bool.not_eq_false', Int.not_lt, Int.not_le, bne_iff_ne, bne_eq_false_iff_eq, beq_iff_eq, beq_eq_false_iff_ne, ne_eq, Int.ofNat_inj, Int.natCast_inj] at hh) <;> (try (exfalso; omega))))
                  refine wpB_regionXL (prs := []) (by kernel_rfl) rfl (by kernel_rfl) ?_
                  repeat' (first | refine wpB_seq ?_ | refine wpB_regionL rfl ?_ | refine wpB_block ?_ | refine wpB_skip ?_ | refine wpB_exit ?_ | refine wpB_ret ?_ | simp (maxSteps := 1000000) (dsimp := false) (disch := omega) only [go_sem, simprocAttr, *] | ((first | refine stepsB_both (fun hh => ?_) (fun hh => ?_) | refine stepsXB_both (fun hh => ?_) (fun hh => ?_)) <;> (try simp (maxSteps := 1000000) (dsimp := false) (disch := omega) only [go_sem, simprocAttr, decide_eq_true_eq, decide_eq_false_iff_not, Bool.not_eq_true, Bool.not_eq_false, Bool.not_eq_true', Bool.not_eq_false', Int.not_lt, Int.not_le, bne_iff_ne, bne_eq_false_iff_eq, beq_iff_eq, beq_eq_false_iff_ne, ne_eq, Int.ofNat_inj, Int.natCast_inj] at hh) <;> (try (exfalso; omega))) | (refine wpB_cond (by simp (maxSteps := 1000000) (dsimp := false) (disch := omega) only [go_sem, simprocAttr, *]; exact rfl) (fun hh => ?_) (fun hh => ?_) <;> (try simp (maxSteps := 1000000) (dsimp := false) (disch := omega) only [go_sem, simprocAttr, decide_eq_true_eq, decide_eq_false_iff_not, Bool.not_eq_true, Bool.not_eq_false, Bool.not_eq_true', Bool.not_eq_false', Int.not_lt, Int.not_le, bne_iff_ne, bne_eq_false_iff_eq, beq_iff_eq, beq_eq_false_iff_ne, ne_eq, Int.ofNat_inj, Int.natCast_inj] at hh) <;> (try (exfalso; omega))))
                  refine hR2 _ _ ⟨k + 1, false, by omega, by simp (maxSteps := 1000000) (dsimp := false) (disch := omega) only [go_sem, simprocAttr, *], by simp (maxSteps := 1000000) (dsimp := false) (disch := omega) only [go_sem, simprocAttr, *], by simp (maxSteps := 1000000) (dsimp := false) (disch := omega) only [go_sem, simprocAttr, *], by simp (maxSteps := 1000000) (dsimp := false) (disch := omega) only [go_sem, simprocAttr, *], by simp (maxSteps := 1000000) (dsimp := false) (disch := omega) only [go_sem, simprocAttr, *], by simp (maxSteps := 1000000) (dsimp := false) (disch := omega) only [go_sem, simprocAttr, *], by simp (maxSteps := 1000000) (dsimp := false) (disch := omega) only [go_sem, simprocAttr, *], .inr hm2⟩ ?_
                  simp (maxSteps := 1000000) (dsimp := false) (disch := omega) only [go_sem, simprocAttr, *, natOf_int]
            · have hbt : b = true := by
                rw [List.drop_eq_nil_of_le (by omega)] at hbk
                rcases hbk with h | h
                · exact h
                · cases h
              subst hbt
              repeat' (first | refine wpB_seq ?_ | refine wpB_regionL rfl ?_ | refine wpB_block ?_ | refine wpB_skip ?_ | refine wpB_exit ?_ | refine wpB_ret ?_ | simp (maxSteps := 1000000) (dsimp := false) (disch := omega) only [go_sem, simprocAttr, *] | ((first | refine stepsB_both (fun hh => ?_) (fun hh => ?_) | refine stepsXB_both (fun hh => ?_) (fun hh => ?_)) <;> (try simp (maxSteps := 1000000) (dsimp := false) (disch := omega) only [go_sem, simprocAttr, decide_eq_true_eq, decide_eq_false_iff_not, Bool.not_eq_true, Bool.not_eq_false, Bool.not_eq_true', Bool.not_eq_false', Int.not_lt, Int.not_le, bne_iff_ne, bne_eq_false_iff_eq, beq_iff_eq, beq_eq_false_iff_ne, ne_eq, Int.ofNat_inj, Int.natCast_inj] at hh) <;> (try (exfalso; omega))) | (refine wpB_cond (by simp (maxSteps := 1000000) (dsimp := false) (disch := omega) only [go_sem, simprocAttr, *]; exact rfl) (fun hh => ?_) (fun hh => ?_) <;> (try simp (maxSteps := 1000000) (dsimp := false) (disch := omega) only [go_sem, simprocAttr, decide_eq_true_eq, decide_eq_false_iff_not, Bool.not_eq_true, Bool.not_eq_false, Bool.not_eq_true', Bool.not_eq_false', Int.not_lt, Int.not_le, bne_iff_ne, bne_eq_false_iff_eq, beq_iff_eq, beq_eq_false_iff_ne, ne_eq, Int.ofNat_inj, Int.natCast_inj] at hh) <;> (try (exfalso; omega))))
              refine hR _ _ ⟨j + 1, by omega, by simp (maxSteps := 1000000) (dsimp := false) (disch := omega) only [go_sem, simprocAttr, *], by simp (maxSteps := 1000000) (dsimp := false) (disch := omega) only [go_sem, simprocAttr, *], by simp (maxSteps := 1000000) (dsimp := false) (disch := omega) only [go_sem, simprocAttr, *], by simp (maxSteps := 1000000) (dsimp := false) (disch := omega) only [go_sem, simprocAttr, *], by simp (maxSteps := 1000000) (dsimp := false) (disch := omega) only [go_sem, simprocAttr, *]⟩ ?_
              simp (maxSteps := 1000000) (dsimp := false) (disch := omega) only [go_sem, simprocAttr, *, natOf_int]
        · repeat' (first | refine wpB_seq ?_ | refine wpB_regionL rfl ?_ | refine wpB_block ?_ | refine wpB_skip ?_ | refine wpB_exit ?_ | refine wpB_ret ?_ | simp (maxSteps := 1000000) (dsimp := false) (disch := omega) only [go_sem, simprocAttr, *] | ((first | refine stepsB_both (fun hh => ?_) (fun hh => ?_) | refine stepsXB_both (fun hh => ?_) (fun hh => ?_)) <;> (try simp (maxSteps := 1000000) (dsimp := false) (disch := omega) only [go_sem, simprocAttr, decide_eq_true_eq, decide_eq_false_iff_not, Bool.not_eq_true, Bool.not_eq_false, Bool.not_eq_true', Bool.not_eq_false', Int.not_lt, Int.not_le, bne_iff_ne, bne_eq_false_iff_eq, beq_iff_eq, beq_eq_false_iff_ne, ne_eq, Int.ofNat_inj, Int.natCast_inj] at hh) <;> (try (exfalso; omega))) | (refine wpB_cond (by simp (maxSteps := 1000000) (dsimp := false) (disch := omega) only [go_sem, simprocAttr, *]; exact rfl) (fun hh => ?_) (fun hh => ?_) <;> (try simp (maxSteps := 1000000) (dsimp := false) (disch := omega) only [go_sem, simprocAttr, decide_eq_true_eq, decide_eq_false_iff_not, Bool.not_eq_true, Bool.not_eq_false, Bool.not_eq_true', Bool.not_eq_false', Int.not_lt, Int.not_le, bne_iff_ne, bne_eq_false_iff_eq, beq_iff_eq, beq_eq_false_iff_ne, ne_eq, Int.ofNat_inj, Int.natCast_inj] at hh) <;> (try (exfalso; omega))))
          refine wpB_loop (fun e H => ∃ (k : Nat) (b : Bool), k ≤ c.length ∧ H = [Ob.arr [nfaD n]] ∧ e 1 = isD st ∧ e 5 = .ptr 0 0 0 ∧ e 7 = isD c ∧ e 8 = .int .i64 j ∧ e 9 = .bool b ∧ e 10 = .int .i64 k ∧ (b = true ∨ st[j] ∈ c.drop k)) (fun e H => c.length - natOf (e 10)) ?_ ?_
          · exact ⟨0, true, by omega, by simp (maxSteps := 1000000) (dsimp := false) (disch := omega) only [go_sem, simprocAttr, *], by simp (maxSteps := 1000000) (dsimp := false) (disch := omega) only [go_sem, simprocAttr, *], by simp (maxSteps := 1000000) (dsimp := false) (disch := omega) only [go_sem, simprocAttr, *], by simp (maxSteps := 1000000) (dsimp := false) (disch := omega) only [go_sem, simprocAttr, *], by simp (maxSteps := 1000000) (dsimp := false) (disch := omega) only [go_sem, simprocAttr, *], by simp (maxSteps := 1000000) (dsimp := false) (disch := omega) only [go_sem, simprocAttr, *], by simp (maxSteps := 1000000) (dsimp := false) (disch := omega) only [go_sem, simprocAttr, *], .inl rfl⟩
          · rintro e' H ⟨k, b, hk, rfl, e1', e5', e7', e8', e9', e10', hbk⟩ R2 hR2
            by_cases hb2 : k < c.length
            · cases b with
              | true =>
                clear hbk h
                repeat' (first | refine wpB_seq ?_ | refine wpB_regionL rfl ?_ | refine wpB_block ?_ | refine wpB_skip ?_ | refine wpB_exit ?_ | refine wpB_ret ?_ | simp (maxSteps := 1000000) (dsimp := false) (disch := omega) only [go_sem, simprocAttr, *] | ((first | refine stepsB_both (fun hh => ?_) (fun hh => ?_) | refine stepsXB_both (fun hh => ?_) (fun hh => ?_)) <;> (try simp (maxSteps := 1000000) (dsimp := false) (disch := omega) only [go_sem, simprocAttr, decide_eq_true_eq, decide_eq_false_iff_not, Bool.not_eq_true, Bool.not_eq_false, Bool.not_eq_true', Bool.not_eq_false', Int.not_lt, Int.not_le, bne_iff_ne, bne_eq_false_iff_eq, beq_iff_eq, beq_eq_false_iff_ne, ne_eq, Int.ofNat_inj, Int.natCast_inj] at hh) <;> (try (exfalso; omega))) | (refine wpB_cond (by simp (maxSteps := 1000000) (dsimp := false) (disch := omega) only [go_sem, simprocAttr, *]; exact rfl) (fun hh => ?_) (fun hh => ?_) <;> (try simp (maxSteps := 1000000) (dsimp := false) (disch := omega) only [go_sem, simprocAttr, decide_eq_true_eq, decide_eq_false_iff_not, Bool.not_eq_true, Bool.not_eq_false, Bool.not_eq_true', Bool.not_eq_false', Int.not_lt, Int.not_le, bne_iff_ne, bne_eq_false_iff_eq, beq_iff_eq, beq_eq_false_iff_ne, ne_eq, Int.ofNat_inj, Int.natCast_inj] at hh) <;> (try (exfalso; omega))))
                refine wpB_regionXL (prs := []) (by kernel_rfl) rfl (by kernel_rfl) ?_
                repeat' (first | refine wpB_seq ?_ | refine wpB_regionL rfl ?_ | refine wpB_block ?_ | refine wpB_skip ?_ | refine wpB_exit ?_ | refine wpB_ret ?_ | simp (maxSteps := 1000000) (dsimp := false) (disch := omega) only [go_sem, simprocAttr, *] | ((first | refine stepsB_both (fun hh => ?_) (fun hh => ?_) | refine stepsXB_both (fun hh => ?_) (fun hh => ?_)) <;> (try simp (maxSteps := 1000000) (dsimp := false) (disch := omega) only [go_sem, simprocAttr, decide_eq_true_eq, decide_eq_false_iff_not, Bool.not_eq_true, Bool.not_eq_false, Bool.not_eq_true', Bool.not_eq_false', Int.not_lt, Int.not_le, bne_iff_ne, bne_eq_false_iff_eq, beq_iff_eq, beq_eq_false_iff_ne, ne_eq, Int.ofNat_inj, Int.natCast_inj] at hh) <;> (try (exfalso; omega))) | (refine wpB_cond (by simp (maxSteps := 1000000) (dsimp := false) (disch := omega) only [go_sem, simprocAttr, *]; exact rfl) (fun hh => ?_) (fun hh => ?_) <;> (try simp (maxSteps := 1000000) (dsimp := false) (disch := omega) only [go_sem, simprocAttr, decide_eq_true_eq, decide_eq_false_iff_not, Bool.not_eq_true, Bool.not_eq_false, Bool.not_eq_true', Bool.not_eq_false', Int.not_lt, Int.not_le, bne_iff_ne, bne_eq_false_iff_eq, beq_iff_eq, beq_eq_false_iff_ne, ne_eq, Int.ofNat_inj, Int.natCast_inj] at hh) <;> (try (exfalso; omega))))
                refine hR2 _ _ ⟨k + 1, true, by omega, by simp (maxSteps := 1000000) (dsimp := false) (disch := omega) only [go_sem, simprocAttr, *], by simp (maxSteps := 1000000) (dsimp := false) (disch := omega) only [go_sem, simprocAttr, *], by simp (maxSteps := 1000000) (dsimp := false) (disch := omega) only [go_sem, simprocAttr, *], by simp (maxSteps := 1000000) (dsimp := false) (disch := omega) only [go_sem, simprocAttr, *], by simp (maxSteps := 1000000) (dsimp := false) (disch := omega) only [go_sem, simprocAttr, *], by simp (maxSteps := 1000000) (dsimp := false) (disch := omega) only [go_sem, simprocAttr, *], by simp (maxSteps := 1000000) (dsimp := false) (disch := omega) only [go_sem, simprocAttr, *], .inl rfl⟩ ?_
                simp (maxSteps := 1000000) (dsimp := false) (disch := omega) only [go_sem, simprocAttr, *, natOf_int]
              | false =>
                have hm : st[j] ∈ c.drop k := by simpa using hbk
                rw [List.drop_eq_getElem_cons hb2] at hm
                clear hbk h
                by_cases heq : c[k] = st[j]
                · have heq' : (c[k] == st[j]) = true := by simpa using heq
                  clear hm heq
                  repeat' (first | refine wpB_seq ?_ | refine wpB_regionL rfl ?_ | refine wpB_block ?_ | refine wpB_skip ?_ | refine wpB_exit ?_ | refine wpB_ret ?_ | simp (maxSteps := 1000000) (dsimp := false) (disch := omega) only [go_sem, simprocAttr, *] | ((first | refine stepsB_both (fun hh => ?_) (fun hh => ?_) | refine stepsXB_both (fun hh => ?_) (fun hh => ?_)) <;> (try simp (maxSteps := 1000000) (dsimp := false) (disch := omega) only [go_sem, simprocAttr, decide_eq_true_eq, decide_eq_false_iff_not, Bool.not_eq_true, Bool.not_eq_false, Bool.not_eq_true', Bool.not_eq_false', Int.not_lt, Int.not_le, bne_iff_ne, bne_eq_false_iff_eq, beq_iff_eq, beq_eq_false_iff_ne, ne_eq, Int.ofNat_inj, Int.natCast_inj] at hh) <;> (try (exfalso; omega))) | (refine wpB_cond (by simp (maxSteps := 1000000) (dsimp := false) (disch := omega) only [go_sem, simprocAttr, *]; exact rfl) (fun hh => ?_) (fun hh => ?_) <;> (try simp (maxSteps := 1000000) (dsimp := false) (disch := omega) only [go_sem, simprocAttr, decide_eq_true_eq, decide_eq_false_iff_not, Bool.not_eq_true, Bool.not_eq_false, Bool.not_eq_true', Bool.not_eq_false', Int.not_lt, Int.not_le, bne_iff_ne, bne_eq_false_iff_eq, beq_iff_eq, beq_eq_false_iff_ne, ne_eq, Int.ofNat_inj, Int.natCast_inj] at hh) <;> (try (exfalso; omega))))
                  refine wpB_regionXL (prs := []) (by kernel_rfl) rfl (by kernel_rfl) ?_
                  repeat' (first | refine wpB_seq ?_ | refine wpB_regionL rfl ?_ | refine wpB_block ?_ | refine wpB_skip ?_ | refine wpB_exit ?_ | refine wpB_ret ?_ | simp (maxSteps := 1000000) (dsimp := false) (disch := omega) only [go_sem, simprocAttr, *] | ((first | refine stepsB_both (fun hh => ?_) (fun hh => ?_) | refine stepsXB_both (fun hh => ?_) (fun hh => ?_)) <;> (try simp (maxSteps := 1000000) (dsimp := false) (disch := omega) only [go_sem, simprocAttr, decide_eq_true_eq, decide_eq_false_iff_not, Bool.not_eq_true, Bool.not_eq_false, Bool.not_eq_true', Bool.not_eq_false', Int.not_lt, Int.not_le, bne_iff_ne, bne_eq_false_iff_eq, beq_iff_eq, beq_eq_false_iff_ne, ne_eq, Int.ofNat_inj, Int.natCast_inj] at hh) <;> (try (exfalso; omega))) | (refine wpB_cond (by simp (maxSteps := 1000000) (dsimp := false) (disch := omega) only [go_sem, simprocAttr, *]; exact rfl) (fun hh => ?_) (fun hh => ?_) <;> (try simp (maxSteps := 1000000) (dsimp := false) (disch := omega) only [go_sem, simprocAttr, decide_eq_true_eq, decide_eq_false_iff_not, Bool.not_eq_true, Bool.not_eq_false, Bool.not_eq_true', Bool.not_eq_false', Int.not_lt, Int.not_le, bne_iff_ne, bne_eq_false_iff_eq, beq_iff_eq, beq_eq_false_iff_ne, ne_eq, Int.ofNat_inj, Int.natCast_inj] at hh) <;> (try (exfalso; omega))))
                  refine hR2 _ _ ⟨k + 1, true, by omega, by simp (maxSteps := 1000000) (dsimp := false) (disch := omega) only [go_sem, simprocAttr, *], by simp (maxSteps := 1000000) (dsimp := false) (disch := omega) only [go_sem, simprocAttr, *], by simp (maxSteps := 1000000) (dsimp := false) (disch := omega) only [go_sem, simprocAttr, *], by simp (maxSteps := 1000000) (dsimp := false) (disch := omega) only [go_sem, simprocAttr, *], by simp (maxSteps := 1000000) (dsimp := false) (disch := omega) only [go_sem, simprocAttr, *], by simp (maxSteps := 1000000) (dsimp := false) (disch := omega) only [go_sem, simprocAttr, *], by simp (maxSteps := 1000000) (dsimp := false) (disch := omega) only [go_sem, simprocAttr, *], .inl rfl⟩ ?_
                  simp (maxSteps := 1000000) (dsimp := false) (disch := omega) only [go_sem, simprocAttr, *, natOf_int]
                · have heq' : (c[k] == st[j]) = false := by simpa using heq
                  have hm2 : st[j] ∈ c.drop (k + 1) := by
                    rcases List.mem_cons.1 hm with h | h
                    · exact absurd h.symm heq
                    · exact h
                  clear hm heq
                  repeat' (first | refine wpB_seq ?_ | refine wpB_regionL rfl ?_ | refine wpB_block ?_ | refine wpB_skip ?_ | refine wpB_exit ?_ | refine wpB_ret ?_ | simp (maxSteps := 1000000) (dsimp := false) (disch := omega) only [go_sem, simprocAttr, *] | ((first | refine stepsB_both (fun hh => ?_) (fun hh => ?_) | refine stepsXB_both (fun hh => ?_) (fun hh => ?_)) <;> (try simp (maxSteps := 1000000) (dsimp := false) (disch := omega) only [go_sem, simprocAttr, decide_eq_true_eq, decide_eq_false_iff_not, Bool.not_eq_true, Bool.not_eq_false, Bool.not_eq_true', Bool.not_eq_false', Int.not_lt, Int.not_le, bne_iff_ne, bne_eq_false_iff_eq, beq_iff_eq, beq_eq_false_iff_ne, ne_eq, Int.ofNat_inj, Int.natCast_inj] at hh) <;> (try (exfalso; omega))) | (refine wpB_cond (by simp (maxSteps := 1000000) (dsimp := false) (disch := omega) only [go_sem, simprocAttr, *]; exact rfl) (fun hh => ?_) (fun hh => ?_) <;> (try simp (maxSteps := 1000000) (dsimp := false) (disch := omega) only [go_sem, simprocAttr, decide_eq_true_eq, decide_eq_false_iff_not, Bool.not_eq_true, Bool.not_eq_false, Bool.not_eq_true', Bool.not_eq_false', Int.not_lt, Int.not_le, bne_iff_ne, bne_eq_false_iff_eq, beq_iff_eq, beq_eq_false_iff_ne, ne_eq, Int.ofNat_inj, Int.natCast_inj] at hh) <;> (try (exfalso; omega))))
                  refine wpB_regionXL (prs := []) (by kernel_rfl) rfl (by kernel_rfl) ?_
                  repeat' (first | refine wpB_seq ?_ | refine wpB_regionL rfl ?_ | refine wpB_block ?_ | refine wpB_skip ?_ | refine wpB_exit ?_ | refine wpB_ret ?_ | simp (maxSteps := 1000000) (dsimp := false) (disch := omega) only [go_sem, simprocAttr, *] | ((first | refine stepsB_both (fun hh => ?_) (fun hh => ?_) | refine stepsXB_both (fun hh => ?_) (fun hh => ?_)) <;> (try simp (maxSteps := 1000000) (dsimp := false) (disch := omega) only [go_sem, simprocAttr, decide_eq_true_eq, decide_eq_false_iff_not, Bool.not_eq_true, Bool.not_eq_false, Bool.not_eq_true', Bool.not_eq_false', Int.not_lt, Int.not_le, bne_iff_ne, bne_eq_false_iff_eq, beq_iff_eq, beq_eq_false_iff_ne, ne_eq, Int.ofNat_inj, Int.natCast_inj] at hh) <;> (try (exfalso; omega))) | (refine wpB_cond (by simp (maxSteps := 1000000) (dsimp := false) (disch := omega) only [go_sem, simprocAttr, *]; exact rfl) (fun hh => ?_) (fun hh => ?_) <;> (try simp (maxSteps := 1000000) (dsimp := false) (disch := omega) only [go_sem, simprocAttr, decide_eq_true_eq, decide_eq_false_iff_not, Bool.not_eq_true, Bool.not_eq_false, Bool.not_eq_true', Bool.not_eq_false', Int.not_lt, Int.not_le, bne_iff_ne, bne_eq_false_iff_eq, beq_iff_eq, beq_eq_false_iff_ne, ne_eq, Int.ofNat_inj, Int.natCast_inj] at hh) <;> (try (exfalso; omega))))
                  refine hR2 _ _ ⟨k + 1, false, by omega, by simp (maxSteps := 1000000) (dsimp := false) (disch := omega) only [go_sem, simprocAttr, *], by simp (maxSteps := 1000000) (dsimp := false) (disch := omega) only [go_sem, simprocAttr, *], by simp (maxSteps := 1000000) (dsimp := false) (disch := omega) only [go_sem, simprocAttr, *], by simp (maxSteps := 1000000) (dsimp := false) (disch := omega) only [go_sem, simprocAttr, *], by simp (maxSteps := 1000000) (dsimp := false) (disch := omega) only [go_sem, simprocAttr, *], by simp (maxSteps := 1000000) (dsimp := false) (disch := omega) only [go_sem, simprocAttr, *], by simp (maxSteps := 1000000) (dsimp := false) (disch := omega) only [go_sem, simprocAttr, *], .inr hm2⟩ ?_
                  simp (maxSteps := 1000000) (dsimp := false) (disch := omega) only [go_sem, simprocAttr, *, natOf_int]
            · have hbt : b = true := by
                rw [List.drop_eq_nil_of_le (by omega)] at hbk
                rcases hbk with h | h
                · exact h
                · cases h
              subst hbt
              repeat' (first | refine wpB_seq ?_ | refine wpB_regionL rfl ?_ | refine wpB_block ?_ | refine wpB_skip ?_ | refine wpB_exit ?_ | refine wpB_ret ?_ | simp (maxSteps := 1000000) (dsimp := false) (disch := omega) only [go_sem, simprocAttr, *] | ((first | refine stepsB_both (fun hh => ?_) (fun hh => ?_) | refine stepsXB_both (fun hh => ?_) (fun hh => ?_)) <;> (try simp (maxSteps := 1000000) (dsimp := false) (disch := omega) only [go_sem, simprocAttr, decide_eq_true_eq, decide_eq_false_iff_not, Bool.not_eq_true, Bool.not_eq_false, Bool.not_eq_true', Bool.not_eq_false', Int.not_lt, Int.not_le, bne_iff_ne, bne_eq_false_iff_eq, beq_iff_eq, beq_eq_false_iff_ne, ne_eq, Int.ofNat_inj, Int.natCast_inj] at hh) <;> (try (exfalso; omega))) | (refine wpB_cond (by simp (maxSteps := 1000000) (dsimp := false) (disch := omega) only [go_sem, simprocAttr, *]; exact rfl) (fun hh => ?_) (fun hh => ?_) <;> (try simp (maxSteps := 1000000) (dsimp := false) (disch := omega) only [go_sem, simprocAttr, decide_eq_true_eq, decide_eq_false_iff_not, Bool.not_eq_true, Bool.not_eq_false, Bool.not_eq_true', Bool.not_eq_false', Int.not_lt, Int.not_le, bne_iff_ne, bne_eq_false_iff_eq, beq_iff_eq, beq_eq_false_iff_ne, ne_eq, Int.ofNat_inj, Int.natCast_inj] at hh) <;> (try (exfalso; omega))))
              refine hR _ _ ⟨j + 1, by omega, by simp (maxSteps := 1000000) (dsimp := false) (disch := omega) only [go_sem, simprocAttr, *], by simp (maxSteps := 1000000) (dsimp := false) (disch := omega) only [go_sem, simprocAttr, *], by simp (maxSteps := 1000000) (dsimp := false) (disch := omega) only [go_sem, simprocAttr, *], by simp (maxSteps := 1000000) (dsimp := false) (disch := omega) only [go_sem, simprocAttr, *], by simp (maxSteps := 1000000) (dsimp := false) (disch := omega) only [go_sem, simprocAttr, *]⟩ ?_
              simp (maxSteps := 1000000) (dsimp := false) (disch := omega) only [go_sem, simprocAttr, *, natOf_int]
        · repeat' (first | refine wpB_seq ?_ | refine wpB_regionL rfl ?_ | refine wpB_block ?_ | refine wpB_skip ?_ | refine wpB_exit ?_ | refine wpB_ret ?_ | simp (maxSteps := 1000000) (dsimp := false) (disch := omega) only [go_sem, simprocAttr, *] | ((first | refine stepsB_both (fun hh => ?_) (fun hh => ?_) | refine stepsXB_both (fun hh => ?_) (fun hh => ?_)) <;> (try simp (maxSteps := 1000000) (dsimp := false) (disch := omega) only [go_sem, simprocAttr, decide_eq_true_eq, decide_eq_false_iff_not, Bool.not_eq_true, Bool.not_eq_false, Bool.not_eq_true', Bool.not_eq_false', Int.not_lt, Int.not_le, bne_iff_ne, bne_eq_false_iff_eq, beq_iff_eq, beq_eq_false_iff_ne, ne_eq, Int.ofNat_inj, Int.natCast_inj] at hh) <;> (try (exfalso; omega))) | (refine wpB_cond (by simp (maxSteps := 1000000) (dsimp := false) (disch := omega) only [go_sem, simprocAttr, *]; exact rfl) (fun hh => ?_) (fun hh => ?_) <;> (try simp (maxSteps := 1000000) (dsimp := false) (disch := omega) only [go_sem, simprocAttr, decide_eq_true_eq, decide_eq_false_iff_not, Bool.not_eq_true, Bool.not_eq_false, Bool.not_eq_true', Bool.not_eq_false', Int.not_lt, Int.not_le, bne_iff_ne, bne_eq_false_iff_eq, beq_iff_eq, beq_eq_false_iff_ne, ne_eq, Int.ofNat_inj, Int.natCast_inj] at hh) <;> (try (exfalso; omega))))
          refine wpB_loop (fun e H => ∃ (k : Nat) (b : Bool), k ≤ c.length ∧ H = [Ob.arr [nfaD n]] ∧ e 1 = isD st ∧ e 5 = .ptr 0 0 0 ∧ e 7 = isD c ∧ e 8 = .int .i64 j ∧ e 9 = .bool b ∧ e 10 = .int .i64 k ∧ (b = true ∨ st[j] ∈ c.drop k)) (fun e H => c.length - natOf (e 10)) ?_ ?_
          · exact ⟨0, false, by omega, by simp (maxSteps := 1000000) (dsimp := false) (disch := omega) only [go_sem, simprocAttr, *], by simp (maxSteps := 1000000) (dsimp := false) (disch := omega) only [go_sem, simprocAttr, *], by simp (maxSteps := 1000000) (dsimp := false) (disch := omega) only [go_sem, simprocAttr, *], by simp (maxSteps := 1000000) (dsimp := false) (disch := omega) only [go_sem, simprocAttr, *], by simp (maxSteps := 1000000) (dsimp := false) (disch := omega) only [go_sem, simprocAttr, *], by simp (maxSteps := 1000000) (dsimp := false) (disch := omega) only [go_sem, simprocAttr, *], by simp (maxSteps := 1000000) (dsimp := false) (disch := omega) only [go_sem, simprocAttr, *], .inr (by simpa using h)⟩
          · rintro e' H ⟨k, b, hk, rfl, e1', e5', e7', e8', e9', e10', hbk⟩ R2 hR2
            by_cases hb2 : k < c.length
            · cases b with
              | true =>
                clear hbk h
                repeat' (first | refine wpB_seq ?_ | refine wpB_regionL rfl ?_ | refine wpB_block ?_ | refine wpB_skip ?_ | refine wpB_exit ?_ | refine wpB_ret ?_ | simp (maxSteps := 1000000) (dsimp := false) (disch := omega) only [go_sem, simprocAttr, *] | ((first | refine stepsB_both (fun hh => ?_) (fun hh => ?_) | refine stepsXB_both (fun hh => ?_) (fun hh => ?_)) <;> (try simp (maxSteps := 1000000) (dsimp := false) (disch := omega) only [go_sem, simprocAttr, decide_eq_true_eq, decide_eq_false_iff_not, Bool.not_eq_true, Bool.not_eq_false, Bool.not_eq_true', Bool.not_eq_false', Int.not_lt, Int.not_le, bne_iff_ne, bne_eq_false_iff_eq, beq_iff_eq, beq_eq_false_iff_ne, ne_eq, Int.ofNat_inj, Int.natCast_inj] at hh) <;> (try (exfalso; omega))) | (refine wpB_cond (by simp (maxSteps := 1000000) (dsimp := false) (disch := omega) only [go_sem, simprocAttr, *]; exact rfl) (fun hh => ?_) (fun hh => ?_) <;> (try simp (maxSteps := 1000000) (dsimp := false) (disch := omega) only [go_sem, simprocAttr, decide_eq_true_eq, decide_eq_false_iff_not, Bool.not_eq_true, Bool.not_eq_false, Bool.not_eq_true', Bool.not_eq_false', Int.not_lt, Int.not_le, bne_iff_ne, bne_eq_false_iff_eq, beq_iff_eq, beq_eq_false_iff_ne, ne_eq, Int.ofNat_inj, Int.natCast_inj] at hh) <;> (try (exfalso; omega))))
                refine wpB_regionXL (prs := []) (by kernel_rfl) rfl (by kernel_rfl) ?_
                repeat' (first | refine wpB_seq ?_ | refine wpB_regionL rfl ?_ | refine wpB_block ?_ | refine wpB_skip ?_ | refine wpB_exit ?_ | refine wpB_ret ?_ | simp (maxSteps := 1000000) (dsimp := false) (disch := omega) only [go_sem, simprocAttr, *] | ((first | refine stepsB_both (fun hh => ?_) (fun hh => ?_) | refine stepsXB_both (fun hh => ?_) (fun hh => ?_)) <;> (try simp (maxSteps := 1000000) (dsimp := false) (disch := omega) only [go_sem, simprocAttr, decide_eq_true_eq, decide_eq_false_iff_not, Bool.not_eq_true, Bool.not_eq_false, Bool.not_eq_true', Bool.not_eq_false', Int.not_lt, Int.not_le, bne_iff_ne, bne_eq_false_iff_eq, beq_iff_eq, beq_eq_false_iff_ne, ne_eq, Int.ofNat_inj, Int.natCast_inj] at hh) <;> (try (exfalso; omega))) | (refine wpB_cond (by simp (maxSteps := 1000000) (dsimp := false) (disch := omega) only [go_sem, simprocAttr, *]; exact rfl) (fun hh => ?_) (fun hh => ?_) <;> (try simp (maxSteps := 1000000) (dsimp := false) (disch := omega) only [go_sem, simprocAttr, decide_eq_true_eq, decide_eq_false_iff_not, Bool.not_eq_true, Bool.not_eq_false, Bool.not_eq_true', Bool.not_eq_false', Int.not_lt, Int.not_le, bne_iff_ne, bne_eq_false_iff_eq, beq_iff_eq, beq_eq_false_iff_ne, ne_eq, Int.ofNat_inj, Int.natCast_inj] at hh) <;> (try (exfalso; omega))))
                refine hR2 _ _ ⟨k + 1, true, by omega, by simp (maxSteps := 1000000) (dsimp := false) (disch := omega) only [go_sem, simprocAttr, *], by simp (maxSteps := 1000000) (dsimp := false) (disch := omega) only [go_sem, simprocAttr, *], by simp (maxSteps := 1000000) (dsimp := false) (disch := omega) only [go_sem, simprocAttr, *], by simp (maxSteps := 1000000) (dsimp := false) (disch := omega) only [go_sem, simprocAttr, *], by simp (maxSteps := 1000000) (dsimp := false) (disch := omega) only [go_sem, simprocAttr, *], by simp (maxSteps := 1000000) (dsimp := false) (disch := omega) only [go_sem, simprocAttr, *], by simp (maxSteps := 1000000) (dsimp := false) (disch := omega) only [go_sem, simprocAttr, *], .inl rfl⟩ ?_
                simp (maxSteps := 1000000) (dsimp := false) (disch := omega) only [go_sem, simprocAttr, *, natOf_int]
              | false =>
                have hm : st[j] ∈ c.drop k := by simpa using hbk
                rw [List.drop_eq_getElem_cons hb2] at hm
                clear hbk h
                by_cases heq : c[k] = st[j]
                · have heq' : (c[k] == st[j]) = true := by simpa using heq
                  clear hm heq
                  repeat' (first | refine wpB_seq ?_ | refine wpB_regionL rfl ?_ | refine wpB_block ?_ | refine wpB_skip ?_ | refine wpB_exit ?_ | refine wpB_ret ?_ | simp (maxSteps := 1000000) (dsimp := false) (disch := omega) only [go_sem, simprocAttr, *] | ((first | refine stepsB_both (fun hh => ?_) (fun hh => ?_) | refine stepsXB_both (fun hh => ?_) (fun hh => ?_)) <;> (try simp (maxSteps := 1000000) (dsimp := false) (disch := omega) only [go_sem, simprocAttr, decide_eq_true_eq, decide_eq_false_iff_not, Bool.not_eq_true, Bool.not_eq_false, Bool.not_eq_true', Bool.not_eq_false', Int.not_lt, Int.not_le, bne_iff_ne, bne_eq_false_iff_eq, beq_iff_eq, beq_eq_false_iff_ne, ne_eq, Int.ofNat_inj, Int.natCast_inj] at hh) <;> (try (exfalso; omega))) | (refine wpB_cond (by simp (maxSteps := 1000000) (dsimp := false) (disch := omega) only [go_sem, simprocAttr, *]; exact rfl) (fun hh => ?_) (fun hh => ?_) <;> (try simp (maxSteps := 1000000) (dsimp := false) (disch := omega) only [go_sem, simprocAttr, decide_eq_true_eq, decide_eq_false_iff_not, Bool.not_eq_true, Bool.not_eq_false, Bool.not_eq_true', Bool.not_eq_false', Int.not_lt, Int.not_le, bne_iff_ne, bne_eq_false_iff_eq, beq_iff_eq, beq_eq_false_iff_ne, ne_eq, Int.ofNat_inj, Int.natCast_inj] at hh) <;> (try (exfalso; omega))))
                  refine wpB_regionXL (prs := []) (by kernel_rfl) rfl (by kernel_rfl) ?_
                  repeat' (first | refine wpB_seq ?_ | refine wpB_regionL rfl ?_ | refine wpB_block ?_ | refine wpB_skip ?_ | refine wpB_exit ?_ | refine wpB_ret ?_ | simp (maxSteps := 1000000) (dsimp := false) (disch := omega) only [go_sem, simprocAttr, *] | ((first | refine stepsB_both (fun hh => ?_) (fun hh => ?_) | refine stepsXB_both (fun hh => ?_) (fun hh => ?_)) <;> (try simp (maxSteps := 1000000) (dsimp := false) (disch := omega) only [go_sem, simprocAttr, decide_eq_true_eq, decide_eq_false_iff_not, Bool.not_eq_true, Bool.not_eq_false, Bool.not_eq_true', Bool.not_eq_false', Int.not_lt, Int.not_le, bne_iff_ne, bne_eq_false_iff_eq, beq_iff_eq, beq_eq_false_iff_ne, ne_eq, Int.ofNat_inj, Int.natCast_inj] at hh) <;> (try (exfalso; omega))) | (refine wpB_cond (by simp (maxSteps := 1000000) (dsimp := false) (disch := omega) only [go_sem, simprocAttr, *]; exact rfl) (fun hh => ?_) (fun hh => ?_) <;> (try simp (maxSteps := 1000000) (dsimp := false) (disch := omega) only [go_sem, simprocAttr, decide_eq_true_eq, decide_eq_false_iff_not, Bool.not_eq_true, Bool.not_eq_false, Bool.not_eq_true', Bool.not_eq_false', Int.not_lt, Int.not_le, bne_iff_ne, bne_eq_false_iff_eq, beq_iff_eq, beq_eq_false_iff_ne, ne_eq, Int.ofNat_inj, Int.natCast_inj] at hh) <;> (try (exfalso; omega))))
                  refine hR2 _ _ ⟨k + 1, true, by omega, by simp (maxSteps := 1000000) (dsimp := false) (disch := omega) only [go_sem, simprocAttr, *], by simp (maxSteps := 1000000) (dsimp := false) (disch := omega) only [go_sem, simprocAttr, *], by simp (maxSteps := 1000000) (dsimp := false) (disch := omega) only [go_sem, simprocAttr, *], by simp (maxSteps := 1000000) (dsimp := false) (disch := omega) only [go_sem, simprocAttr, *], by simp (maxSteps := 1000000) (dsimp := false) (disch := omega) only [go_sem, simprocAttr, *], by simp (maxSteps := 1000000) (dsimp := false) (disch := omega) only [go_sem, simprocAttr, *], by simp (maxSteps := 1000000) (dsimp := false) (disch := omega) only [go_sem, simprocAttr, *], .inl rfl⟩ ?_
                  simp (maxSteps := 1000000) (dsimp := false) (disch := omega) only [go_sem, simprocAttr, *, natOf_int]
                · have heq' : (c[k] == st[j]) = false := by simpa using heq
                  have hm2 : st[j] ∈ c.drop (k + 1) := by
                    rcases List.mem_cons.1 hm with h | h
                    · exact absurd h.symm heq
                    · exact h
                  clear hm heq
                  repeat' (first | refine wpB_seq ?_ | refine wpB_regionL rfl ?_ | refine wpB_block ?_ | refine wpB_skip ?_ | refine wpB_exit ?_ | refine wpB_ret ?_ | simp (maxSteps := 1000000) (dsimp := false) (disch := omega) only [go_sem, simprocAttr, *] | ((first | refine stepsB_both (fun hh => ?_) (fun hh => ?_) | refine stepsXB_both (fun hh => ?_) (fun hh => ?_)) <;> (try simp (maxSteps := 1000000) (dsimp := false) (disch := omega) only [go_sem, simprocAttr, decide_eq_true_eq, decide_eq_false_iff_not, Bool.not_eq_true, Bool.not_eq_false, Bool.not_eq_true', Bool.not_eq_false', Int.not_lt, Int.not_le, bne_iff_ne, bne_eq_false_iff_eq, beq_iff_eq, beq_eq_false_iff_ne, ne_eq, Int.ofNat_inj, Int.natCast_inj] at hh) <;> (try (exfalso; omega))) | (refine wpB_cond (by simp (maxSteps := 1000000) (dsimp := false) (disch := omega) only [go_sem, simprocAttr, *]; exact rfl) (fun hh => ?_) (fun hh => ?_) <;> (try simp (maxSteps := 1000000) (dsimp := false) (disch := omega) only [go_sem, simprocAttr, decide_eq_true_eq, decide_eq_false_iff_not, Bool.not_eq_true, Bool.not_eq_false, Bool.not_eq_true', Bool.not_eq_false', Int.not_lt, Int.not_le, bne_iff_ne, bne_eq_false_iff_eq, beq_iff_eq, beq_eq_false_iff_ne, ne_eq, Int.ofNat_inj, Int.natCast_inj] at hh) <;> (try (exfalso; omega))))
                  refine wpB_regionXL (prs := []) (by kernel_rfl) rfl (by kernel_rfl) ?_
                  repeat' (first | refine wpB_seq ?_ | refine wpB_regionL rfl ?_ | refine wpB_block ?_ | refine wpB_skip ?_ | refine wpB_exit ?_ | refine wpB_ret ?_ | simp (maxSteps := 1000000) (dsimp := false) (disch := omega) only [go_sem, simprocAttr, *] | ((first | refine stepsB_both (fun hh => ?_) (fun hh => ?_) | refine stepsXB_both (fun hh => ?_) (fun hh => ?_)) <;> (try simp (maxSteps := 1000000) (dsimp := false) (disch := omega) only [go_sem, simprocAttr, decide_eq_true_eq, decide_eq_false_iff_not, Bool.not_eq_true, Bool.not_eq_false, Bool.not_eq_true', Bool.not_eq_false', Int.not_lt, Int.not_le, bne_iff_ne, bne_eq_false_iff_eq, beq_iff_eq, beq_eq_false_iff_ne, ne_eq, Int.ofNat_inj, Int.natCast_inj] at hh) <;> (try (exfalso; omega))) | (refine wpB_cond (by simp (maxSteps := 1000000) (dsimp := false) (disch := omega) only [go_sem, simprocAttr, *]; exact rfl) (fun hh => ?_) (fun hh => ?_) <;> (try simp (maxSteps := 1000000) (dsimp := false) (disch := omega) only [go_sem, simprocAttr, decide_eq_true_eq, decide_eq_false_iff_not, Bool.not_eq_true, Bool.not_eq_false, Bool.not_eq_true', Bool.not_eq_false', Int.not_lt, Int.not_le, bne_iff_ne, bne_eq_false_iff_eq, beq_iff_eq, beq_eq_false_iff_ne, ne_eq, Int.ofNat_inj, Int.natCast_inj] at hh) <;> (try (exfalso; omega))))
                  refine hR2 _ _ ⟨k + 1, false, by omega, by simp (maxSteps := 1000000) (dsimp := false) (disch := omega) only [go_sem, simprocAttr, *], by simp (maxSteps := 1000000) (dsimp := false) (disch := omega) only [go_sem, simprocAttr, *], by simp (maxSteps := 1000000) (dsimp := false) (disch := omega) only [go_sem, simprocAttr, *], by simp (maxSteps := 1000000) (dsimp := false) (disch := omega) only [go_sem, simprocAttr, *], by simp (maxSteps := 1000000) (dsimp := false) (disch := omega) only [go_sem, simprocAttr, *], by simp (maxSteps := 1000000) (dsimp := false) (disch := omega) only [go_sem, simprocAttr, *], by simp (maxSteps := 1000000) (dsimp := false) (disch := omega) only [go_sem, simprocAttr, *], .inr hm2⟩ ?_
                  simp (maxSteps := 1000000) (dsimp := false) (disch := omega) only [go_sem, simprocAttr, *, natOf_int]
            · have hbt : b = true := by
                rw [List.drop_eq_nil_of_le (by omega)] at hbk
                rcases hbk with h | h
                · exact h
                · cases h
              subst hbt
              repeat' (first | refine wpB_seq ?_ | refine wpB_regionL rfl ?_ | refine wpB_block ?_ | refine wpB_skip ?_ | refine wpB_exit ?_ | refine wpB_ret ?_ | simp (maxSteps := 1000000) (dsimp := false) (disch := omega) only [go_sem, simprocAttr, *] | ((first | refine stepsB_both (fun hh => ?_) (fun hh => ?_) | refine stepsXB_both (fun hh => ?_) (fun hh => ?_)) <;> (try simp (maxSteps := 1000000) (dsimp := false) (disch := omega) only [go_sem, simprocAttr, decide_eq_true_eq, decide_eq_false_iff_not, Bool.not_eq_true, Bool.not_eq_false, Bool.not_eq_true', Bool.not_eq_false', Int.not_lt, Int.not_le, bne_iff_ne, bne_eq_false_iff_eq, beq_iff_eq, beq_eq_false_iff_ne, ne_eq, Int.ofNat_inj, Int.natCast_inj] at hh) <;> (try (exfalso; omega))) | (refine wpB_cond (by simp (maxSteps := 1000000) (dsimp := false) (disch := omega) only [go_sem, simprocAttr, *]; exact rfl) (fun hh => ?_) (fun hh => ?_) <;> (try simp (maxSteps := 1000000) (dsimp := false) (disch := omega) only [go_sem, simprocAttr, decide_eq_true_eq, decide_eq_false_iff_not, Bool.not_eq_true, Bool.not_eq_false, Bool.not_eq_true', Bool.not_eq_false', Int.not_lt, Int.not_le, bne_iff_ne, bne_eq_false_iff_eq, beq_iff_eq, beq_eq_false_iff_ne, ne_eq, Int.ofNat_inj, Int.natCast_inj] at hh) <;> (try (exfalso; omega))))
              refine hR _ _ ⟨j + 1, by omega, by simp (maxSteps := 1000000) (dsimp := false) (disch := omega) only [go_sem, simprocAttr, *], by simp (maxSteps := 1000000) (dsimp := false) (disch := omega) only [go_sem, simprocAttr, *], by simp (maxSteps := 1000000) (dsimp := false) (disch := omega) only [go_sem, simprocAttr, *], by simp (maxSteps := 1000000) (dsimp := false) (disch := omega) only [go_sem, simprocAttr, *], by simp (maxSteps := 1000000) (dsimp := false) (disch := omega) only [go_sem, simprocAttr, *]⟩ ?_
              simp (maxSteps := 1000000) (dsimp := false) (disch := omega) only [go_sem, simprocAttr, *, natOf_int]
      · repeat' (first | refine wpB_seq ?_ | refine wpB_regionL rfl ?_ | refine wpB_block ?_ | refine wpB_skip ?_ | refine wpB_exit ?_ | refine wpB_ret ?_ | simp (maxSteps := 1000000) (dsimp := false) (disch := omega) only [go_sem, simprocAttr, *] | ((first | refine stepsB_both (fun hh => ?_) (fun hh => ?_) | refine stepsXB_both (fun hh => ?_) (fun hh => ?_)) <;> (try simp (maxSteps := 1000000) (dsimp := false) (disch := omega) only [go_sem, simprocAttr, decide_eq_true_eq, decide_eq_false_iff_not, Bool.not_eq_true, Bool.not_eq_false, Bool.not_eq_true', Bool.not_eq_false', Int.not_lt, Int.not_le, bne_iff_ne, bne_eq_false_iff_eq, beq_iff_eq, beq_eq_false_iff_ne, ne_eq, Int.ofNat_inj, Int.natCast_inj] at hh) <;> (try (exfalso; omega))) | (refine wpB_cond (by simp (maxSteps := 1000000) (dsimp := false) (disch := omega) only [go_sem, simprocAttr, *]; exact rfl) (fun hh => ?_) (fun hh => ?_) <;> (try simp (maxSteps := 1000000) (dsimp := false) (disch := omega) only [go_sem, simprocAttr, decide_eq_true_eq, decide_eq_false_iff_not, Bool.not_eq_true, Bool.not_eq_false, Bool.not_eq_true', Bool.not_eq_false', Int.not_lt, Int.not_le, bne_iff_ne, bne_eq_false_iff_eq, beq_iff_eq, beq_eq_false_iff_ne, ne_eq, Int.ofNat_inj, Int.natCast_inj] at hh) <;> (try (exfalso; omega))))
        refine evB_plain bo16 rfl rfl (stripNI n c) hC2 ?_
        repeat' (first | refine wpB_seq ?_ | refine wpB_regionL rfl ?_ | refine wpB_block ?_ | refine wpB_skip ?_ | refine wpB_exit ?_ | refine wpB_ret ?_ | simp (maxSteps := 1000000) (dsimp := false) (disch := omega) only [go_sem, simprocAttr, *] | ((first | refine stepsB_both (fun hh => ?_) (fun hh => ?_) | refine stepsXB_both (fun hh => ?_) (fun hh => ?_)) <;> (try simp (maxSteps := 1000000) (dsimp := false) (disch := omega) only [go_sem, simprocAttr, decide_eq_true_eq, decide_eq_false_iff_not, Bool.not_eq_true, Bool.not_eq_false, Bool.not_eq_true', Bool.not_eq_false', Int.not_lt, Int.not_le, bne_iff_ne, bne_eq_false_iff_eq, beq_iff_eq, beq_eq_false_iff_ne, ne_eq, Int.ofNat_inj, Int.natCast_inj] at hh) <;> (try (exfalso; omega))) | (refine wpB_cond (by simp (maxSteps := 1000000) (dsimp := false) (disch := omega) only [go_sem, simprocAttr, *]; exact rfl) (fun hh => ?_) (fun hh => ?_) <;> (try simp (maxSteps := 1000000) (dsimp := false) (disch := omega) only [go_sem, simprocAttr, decide_eq_true_eq, decide_eq_false_iff_not, Bool.not_eq_true, Bool.not_eq_false, Bool.not_eq_true', Bool.not_eq_false', Int.not_lt, Int.not_le, bne_iff_ne, bne_eq_false_iff_eq, beq_iff_eq, beq_eq_false_iff_ne, ne_eq, Int.ofNat_inj, Int.natCast_inj] at hh) <;> (try (exfalso; omega))))
        refine evB_plain bo11 rfl rfl (stripII c c) hI ?_
        repeat' (first | refine wpB_seq ?_ | refine wpB_regionL rfl ?_ | refine wpB_block ?_ | refine wpB_skip ?_ | refine wpB_exit ?_ | refine wpB_ret ?_ | simp (maxSteps := 1000000) (dsimp := false) (disch := omega) only [go_sem, simprocAttr, *] | ((first | refine stepsB_both (fun hh => ?_) (fun hh => ?_) | refine stepsXB_both (fun hh => ?_) (fun hh => ?_)) <;> (try simp (maxSteps := 1000000) (dsimp := false) (disch := omega) only [go_sem, simprocAttr, decide_eq_true_eq, decide_eq_false_iff_not, Bool.not_eq_true, Bool.not_eq_false, Bool.not_eq_true', Bool.not_eq_false', Int.not_lt, Int.not_le, bne_iff_ne, bne_eq_false_iff_eq, beq_iff_eq, beq_eq_false_iff_ne, ne_eq, Int.ofNat_inj, Int.natCast_inj] at hh) <;> (try (exfalso; omega))) | (refine wpB_cond (by simp (maxSteps := 1000000) (dsimp := false) (disch := omega) only [go_sem, simprocAttr, *]; exact rfl) (fun hh => ?_) (fun hh => ?_) <;> (try simp (maxSteps := 1000000) (dsimp := false) (disch := omega) only [go_sem, simprocAttr, decide_eq_true_eq, decide_eq_false_iff_not, Bool.not_eq_true, Bool.not_eq_false, Bool.not_eq_true', Bool.not_eq_false', Int.not_lt, Int.not_le, bne_iff_ne, bne_eq_false_iff_eq, beq_iff_eq, beq_eq_false_iff_ne, ne_eq, Int.ofNat_inj, Int.natCast_inj] at hh) <;> (try (exfalso; omega))))
end Go.Proofs.W
end
/- What a machine reads: places and steps; what an expression's fragment is. -/
section
set_option maxHeartbeats 4000000
set_option linter.unusedVariables false
set_option linter.unusedSimpArgs false
namespace Go.Proofs.W
open Go Vm Go.Proofs.Zs06

/-- a step of a machine that reads a word: a state and a place -/
inductive Go1 (n : Nfa) (w : List Int) : Nat × Nat → Nat × Nat → Prop
  | eps {s t p : Nat} : (t : Int) ∈ n.free.getD s [] → Go1 n w (s, p) (t, p)
  | sym {s t p : Nat} {c : Int} : w[p]? = some c → hit n c s = true → n.to.getD s 0 = (t : Int) → Go1 n w (s, p) (t, p + 1)
inductive Path (n : Nfa) (w : List Int) : Nat × Nat → Nat × Nat → Prop
  | refl {x : Nat × Nat} : Path n w x x
  | step {x y z : Nat × Nat} : Path n w x y → Go1 n w y z → Path n w x z
theorem Path.trans {n : Nfa} {w : List Int} {x y z : Nat × Nat} (h : Path n w x y) (g : Path n w y z) : Path n w x z := by
  induction g with
  | refl => exact h
  | step _ g ih => exact .step ih g
theorem Path.one {n : Nfa} {w : List Int} {x y : Nat × Nat} (h : Go1 n w x y) : Path n w x y := .step .refl h
/-- what goes out of a state: free steps alone -/
def FreeOnly (n : Nfa) (s : Nat) (l : List Nat) : Prop := n.set.getD s 0 = 0 ∧ n.free.getD s [] = l.map fun (t : Nat) => (t : Int)
theorem hit_zero {n : Nfa} {c : Int} {s : Nat} (h : n.set.getD s 0 = 0) : hit n c s = false := by
  rw [hit, h]; simp [inB, bitZ_zero]
/-- where an expression at a state ends -/
abbrev endOf (r : Rx) (a : Nat) : Nat := a + 2 * sizeR r - 1
mutual
/-- a machine has an expression's steps, from a state on -/
def Frag (n : Nfa) : Rx → Nat → Prop
  | .mk k s l, a =>
    (if k = 1 then n.set.getD a 0 = s ∧ n.to.getD a 0 = ((endOf (.mk k s l) a : Nat) : Int) ∧ n.free.getD a [] = []
      else FreeOnly n a (if k = 0 then [endOf (.mk k s l) a] else if k = 2 then [a + 1] else if k = 3 then starts l (a + 1) else [a + 1, endOf (.mk k s l) a])) ∧
    FragL n k (a + 1) (endOf (.mk k s l) a) l (a + 1)
/-- those of kids; what goes out of each one's end -/
def FragL (n : Nfa) (k : Int) (a0 b : Nat) : List Rx → Nat → Prop
  | [], _ => True
  | r :: l, a => Frag n r a ∧ FreeOnly n (endOf r a) (if k = 2 then [if l.isEmpty then b else a + 2 * sizeR r] else if k = 4 then [a0, b] else [b]) ∧ FragL n k a0 b l (a + 2 * sizeR r)
def starts : List Rx → Nat → List Nat
  | [], _ => []
  | r :: l, a => a :: starts l (a + 2 * sizeR r)
end
/-- what is true at a place -/
def at' (l : List Bool) (p : Nat) : Prop := l.getD p false = true
theorem at_or {a b : List Bool} {N p : Nat} (ha : a.length = N) (hb : b.length = N) : at' (orB a b) p ↔ at' a p ∨ at' b p := by
  unfold at' orB
  rcases Nat.lt_or_ge p N with h | h
  · simp only [List.getD_eq_getElem?_getD, List.getElem?_zipWith, List.getElem?_eq_getElem (show p < a.length by omega), List.getElem?_eq_getElem (show p < b.length by omega)]
    simp
  · simp only [List.getD_eq_getElem?_getD, List.getElem?_zipWith, List.getElem?_eq_none (show a.length ≤ p by omega), List.getElem?_eq_none (show b.length ≤ p by omega)]
    simp
theorem at_lt {a : List Bool} {p : Nat} (h : at' a p) : p < a.length := by
  rcases Nat.lt_or_ge p a.length with h' | h'
  · exact h'
  · unfold at' at h; rw [List.getD_eq_getElem?_getD, List.getElem?_eq_none h'] at h; simp at h
theorem at_rep {N p : Nat} : ¬ at' (List.replicate N false) p := by
  unfold at'
  rw [List.getD_eq_getElem?_getD, List.getElem?_replicate]
  split <;> simp
theorem at_step {s : Int} {w : List Int} {fl : List Bool} {q : Nat} (hfl : fl.length = w.length + 1) : at' (stepB s w fl) q ↔ ∃ p c, q = p + 1 ∧ at' fl p ∧ w[p]? = some c ∧ inB s c = true := by
  unfold at' stepB
  cases q with
  | zero => simp
  | succ p =>
    simp only [List.getD_eq_getElem?_getD, List.getElem?_cons_succ, List.getElem?_zipWith]
    rcases Nat.lt_or_ge p w.length with h | h
    · rw [List.getElem?_eq_getElem h, List.getElem?_eq_getElem (show p < fl.length by omega)]
      simp only [Option.getD_some, Bool.and_eq_true]
      constructor
      · rintro ⟨h1, h2⟩; exact ⟨p, w[p], rfl, by rw [List.getElem?_eq_getElem (show p < fl.length by omega)]; simpa using h1, List.getElem?_eq_getElem h, h2⟩
      · rintro ⟨p', c, h1, h2, h3, h4⟩
        obtain rfl : p' = p := by omega
        rw [List.getElem?_eq_getElem h] at h3
        cases h3
        rw [List.getElem?_eq_getElem (show p' < fl.length by omega)] at h2
        exact ⟨by simpa using h2, h4⟩
    · rw [List.getElem?_eq_none (show w.length ≤ p by omega)]
      constructor
      · intro h'; cases hh : fl[p]? <;> simp [hh] at h'
      · rintro ⟨p', c, h1, h2, h3, h4⟩
        obtain rfl : p' = p := by omega
        rw [List.getElem?_eq_none (show w.length ≤ p' by omega)] at h3; cases h3
/-- how many are not -/
def cfB (l : List Bool) : Nat := (l.filter (!·)).length
theorem cfB_le (l : List Bool) : cfB l ≤ l.length := List.length_filter_le _ _
theorem cfB_or : ∀ {a b : List Bool}, a.length = b.length → orB a b ≠ a → cfB (orB a b) < cfB a := by
  have le : ∀ {a b : List Bool}, a.length = b.length → cfB (orB a b) ≤ cfB a := by
    intro a
    induction a with
    | nil => intro b h; simp [orB, cfB]
    | cons x a ih =>
      intro b h
      cases b with
      | nil => simp at h
      | cons y b =>
        have := ih (b := b) (by simpa using h)
        simp only [orB, cfB, List.zipWith_cons_cons] at this ⊢
        cases x <;> cases y <;> simp at this ⊢ <;> omega
  intro a
  induction a with
  | nil => intro b h hne; simp [orB] at hne
  | cons x a ih =>
    intro b h hne
    cases b with
    | nil => simp at h
    | cons y b =>
      have h1 := le (a := a) (b := b) (by simpa using h)
      have h2 := ih (b := b) (by simpa using h)
      simp only [orB, cfB, List.zipWith_cons_cons] at h1 h2 hne ⊢
      cases x <;> cases y <;> simp at h1 h2 hne ⊢
      · exact h2 hne
      · omega
      · exact h2 hne
      · exact h2 hne
theorem cfB_zero : ∀ {a b : List Bool}, a.length = b.length → cfB a = 0 → orB a b = a
  | [], [], _, _ => rfl
  | [], _ :: _, h, _ => by simp at h
  | _ :: _, [], h, _ => by simp at h
  | x :: a, y :: b, h, h0 => by
    cases x with
    | false => simp [cfB] at h0
    | true =>
      have := cfB_zero (a := a) (b := b) (by simpa using h) (by simpa [cfB] using h0)
      simp only [orB, List.zipWith_cons_cons] at this ⊢
      simp [this]
theorem rounds_fix {f : List Bool → List Bool} {N : Nat} (hf : ∀ l, l.length = N → (f l).length = N) : ∀ (m : Nat) (l : List Bool), l.length = N → cfB l ≤ m → orB (roundsB f false m l) (f (roundsB f false m l)) = roundsB f false m l
  | 0, l, h, hc => by
    simp only [roundsB]
    exact cfB_zero (by rw [h, hf l h]) (by omega)
  | m + 1, l, h, hc => by
    simp only [roundsB]
    split
    · rename_i hh
      rcases hh with hh | hh
      · cases hh
      · rw [hh, hh]
    · rename_i hh
      have hne : orB l (f l) ≠ l := fun e => hh (.inr e)
      have := cfB_or (by rw [h, hf l h]) hne
      exact rounds_fix hf m _ (orB_len h (hf l h)) (by omega)
/-- what each round keeps, all keep -/
theorem rounds_inv {f : List Bool → List Bool} {N : Nat} (hf : ∀ l, l.length = N → (f l).length = N) (P : List Bool → Prop) (hP : ∀ l, l.length = N → P l → P (orB l (f l))) (one : Bool) : ∀ (m : Nat) (l : List Bool), l.length = N → P l → P (roundsB f one m l)
  | 0, l, _, h => h
  | m + 1, l, hl, h => by
    simp only [roundsB]
    split
    · exact hP l hl h
    · exact rounds_inv hf P hP one m _ (orB_len hl (hf l hl)) (hP l hl h)
end Go.Proofs.W
end
/- An expression's fragment: what it has leads through it. -/
section
set_option maxHeartbeats 4000000
set_option linter.unusedVariables false
set_option linter.unusedSimpArgs false
namespace Go.Proofs.W
open Go Vm Go.Proofs.Zs06

theorem go_free {n : Nfa} {w : List Int} {s t p : Nat} {l : List Nat} (h : FreeOnly n s l) (ht : t ∈ l) : Go1 n w (s, p) (t, p) :=
  .eps (by rw [h.2]; exact List.mem_map.2 ⟨t, ht, rfl⟩)
mutual
theorem sound (n : Nfa) (w : List Int) : ∀ (r : Rx) (a : Nat) (fl : List Bool) (j : Nat), Frag n r a → shapesR r = true → fl.length = w.length + 1 → at' (endsR w r fl) j → ∃ i, at' fl i ∧ Path n w (a, i) (endOf r a, j)
  | .mk k s l, a, fl, j, hf, hs, hfl, he => by
    obtain ⟨h1, h2⟩ := hf
    simp only [shapesR, Bool.and_eq_true] at hs
    obtain ⟨hs1, hsl⟩ := hs
    simp only [shape1] at hs1
    simp only [endsR] at he
    by_cases h0 : k = 0
    · subst h0
      simp only [if_true] at he
      exact ⟨j, he, Path.one (go_free h1 (by simp))⟩
    rw [if_neg h0] at he
    by_cases hk1 : k = 1
    · subst hk1
      simp only [if_true] at he h1
      obtain ⟨p, c, rfl, g1, g2, g3⟩ := (at_step hfl).1 he
      exact ⟨p, g1, Path.one (.sym g2 (by rw [hit, h1.1]; exact g3) h1.2.1)⟩
    rw [if_neg hk1] at he h1
    by_cases hk2 : k = 2
    · subst hk2
      simp only [if_true] at he
      have hne : l ≠ [] := by intro e; subst e; simp at hs1
      obtain ⟨i, g1, g2⟩ := soundCat n w (a + 1) (endOf (.mk 2 s l) a) l (a + 1) fl j h2 hsl hfl hne he
      exact ⟨i, g1, (Path.one (go_free h1 (by simp))).trans g2⟩
    rw [if_neg hk2] at he
    by_cases hk3 : k = 3
    · subst hk3
      simp only [if_true] at he
      obtain h | ⟨i, x, g0, g1, g2⟩ := soundAlt n w (a + 1) (endOf (.mk 3 s l) a) l (a + 1) fl _ j h2 hsl hfl (by simp) he
      · exact absurd h at_rep
      · exact ⟨i, g1, (Path.one (go_free h1 (by simpa using g0))).trans g2⟩
    rw [if_neg hk3] at he
    by_cases hk4 : k = 4 ∨ k = 5
    · rw [if_pos hk4] at he
      obtain ⟨x, rfl⟩ : ∃ x, l = [x] := by
        have : l.length = 1 := by
          simp only [h0, hk1, hk2, hk3, if_false, or_self, if_pos hk4, Bool.and_eq_true] at hs1
          simpa using hs1.1
        match l, this with
        | [x], _ => exact ⟨x, rfl⟩
      simp only [FragL] at h2
      obtain ⟨hx, hout, -⟩ := h2
      simp only [shapesL, Bool.and_true] at hsl
      simp only [if_neg h0, if_neg hk2, if_neg hk3] at h1
      have hlen : ∀ y, y.length = w.length + 1 → (endsOne w [x] y).length = w.length + 1 := fun y hy => ends_len w x y hy
      have kid : ∀ y j, y.length = w.length + 1 → at' (endsOne w [x] y) j → ∃ i, at' y i ∧ Path n w (a + 1, i) (endOf x (a + 1), j) := fun y j hy h => sound n w x (a + 1) y j hx hsl hy h
      have toB : ∀ j, Path n w (endOf x (a + 1), j) (endOf (.mk k s [x]) a, j) := fun j => Path.one (go_free hout (by rcases hk4 with h | h <;> simp [h]))
      have aB : ∀ j, Path n w (a, j) (endOf (.mk k s [x]) a, j) := fun j => Path.one (go_free h1 (by simp))
      have aA : ∀ j, Path n w (a, j) (a + 1, j) := fun j => Path.one (go_free h1 (by simp))
      have fin : (∃ i, at' fl i ∧ (i = j ∨ Path n w (a, i) (endOf x (a + 1), j))) → ∃ i, at' fl i ∧ Path n w (a, i) (endOf (.mk k s [x]) a, j) := by
        rintro ⟨i, g1, rfl | g2⟩
        · exact ⟨i, g1, aB i⟩
        · exact ⟨i, g1, g2.trans (toB j)⟩
      by_cases h4 : k = 4
      · subst h4
        have hback : ∀ j, Path n w (endOf x (a + 1), j) (a + 1, j) := fun j => Path.one (go_free hout (by simp))
        have hinv := rounds_inv hlen (fun L => ∀ j, at' L j → ∃ i, at' fl i ∧ (i = j ∨ Path n w (a, i) (endOf x (a + 1), j))) (fun L hL hP j hj => by
          rcases (at_or hL (hlen L hL)).1 hj with hj | hj
          · exact hP j hj
          · obtain ⟨i', g1, g2⟩ := kid L j hL hj
            obtain ⟨i, g3, rfl | g4⟩ := hP i' g1
            · exact ⟨i, g3, .inr ((aA i).trans g2)⟩
            · exact ⟨i, g3, .inr ((g4.trans (hback i')).trans g2)⟩) (4 == 5) (w.length + 1) fl hfl (fun j hj => ⟨j, hj, .inl rfl⟩)
        exact fin (hinv j he)
      · have h5 : k = 5 := by rcases hk4 with h | h; exact absurd h h4; exact h
        subst h5
        have hone : roundsB (endsOne w [x]) ((5 : Int) == 5) (w.length + 1) fl = orB fl (endsOne w [x] fl) := by simp [roundsB]
        rw [hone] at he
        rcases (at_or hfl (hlen fl hfl)).1 he with hj | hj
        · exact ⟨j, hj, aB j⟩
        · obtain ⟨i, g1, g2⟩ := kid fl j hfl hj
          exact ⟨i, g1, ((aA i).trans g2).trans (toB j)⟩
    · rw [if_neg hk4] at he
      exact absurd he at_rep
theorem soundCat (n : Nfa) (w : List Int) (a0 b : Nat) : ∀ (l : List Rx) (a : Nat) (fl : List Bool) (j : Nat), FragL n 2 a0 b l a → shapesL l = true → fl.length = w.length + 1 → l ≠ [] → at' (endsCat w l fl) j → ∃ i, at' fl i ∧ Path n w (a, i) (b, j)
  | [], a, fl, j, _, _, _, hne, _ => absurd rfl hne
  | r :: l, a, fl, j, hf, hs, hfl, _, he => by
    simp only [FragL, if_true] at hf
    obtain ⟨h1, h2, h3⟩ := hf
    simp only [shapesL, Bool.and_eq_true] at hs
    simp only [endsCat] at he
    by_cases hl : l = []
    · subst hl
      simp only [endsCat] at he
      obtain ⟨i, g1, g2⟩ := sound n w r a fl j h1 hs.1 hfl he
      exact ⟨i, g1, g2.trans (Path.one (go_free h2 (by simp)))⟩
    · obtain ⟨i, g1, g2⟩ := soundCat n w a0 b l _ _ j h3 hs.2 (ends_len w r fl hfl) hl he
      obtain ⟨i', g3, g4⟩ := sound n w r a fl i h1 hs.1 hfl g1
      have hne : l.isEmpty = false := by cases l with | nil => exact absurd rfl hl | cons x y => rfl
      exact ⟨i', g3, (g4.trans (Path.one (go_free h2 (by simp [hne])))).trans g2⟩
theorem soundAlt (n : Nfa) (w : List Int) (a0 b : Nat) : ∀ (l : List Rx) (a : Nat) (fl acc : List Bool) (j : Nat), FragL n 3 a0 b l a → shapesL l = true → fl.length = w.length + 1 → acc.length = w.length + 1 → at' (endsAlt w l fl acc) j → at' acc j ∨ ∃ i x, x ∈ starts l a ∧ at' fl i ∧ Path n w (x, i) (b, j)
  | [], a, fl, acc, j, _, _, _, _, he => .inl he
  | r :: l, a, fl, acc, j, hf, hs, hfl, hacc, he => by
    simp only [FragL] at hf
    obtain ⟨h1, h2, h3⟩ := hf
    simp only [shapesL, Bool.and_eq_true] at hs
    simp only [endsAlt] at he
    rcases soundAlt n w a0 b l _ fl _ j h3 hs.2 hfl (orB_len hacc (ends_len w r fl hfl)) he with h | ⟨i, x, g0, g1, g2⟩
    · rcases (at_or hacc (ends_len w r fl hfl)).1 h with h | h
      · exact .inl h
      · obtain ⟨i, g1, g2⟩ := sound n w r a fl j h1 hs.1 hfl h
        exact .inr ⟨i, a, by simp [starts], g1, g2.trans (Path.one (go_free h2 (by simp)))⟩
    · exact .inr ⟨i, x, by simp [starts, g0], g1, g2⟩
end
end Go.Proofs.W
end
/- An expression's fragment: what leads through it, it has. -/
section
set_option maxHeartbeats 4000000
set_option linter.unusedVariables false
set_option linter.unusedSimpArgs false
namespace Go.Proofs.W
open Go Vm Go.Proofs.Zs06

mutual
/-- where one may be, that entered where a table says -/
def Good (w : List Int) : Rx → Nat → List Bool → Nat → Nat → Prop
  | .mk k s l, a, fl, x, p => (x = a ∧ at' fl p) ∨ (x = endOf (.mk k s l) a ∧ at' (endsR w (.mk k s l) fl) p) ∨ GoodL w k l (a + 1) (if k = 4 then endsR w (.mk k s l) fl else fl) x p
def GoodL (w : List Int) (k : Int) : List Rx → Nat → List Bool → Nat → Nat → Prop
  | [], _, _, _, _ => False
  | r :: l, a, fl, x, p => Good w r a fl x p ∨ GoodL w k l (a + 2 * sizeR r) (if k = 2 then endsR w r fl else fl) x p
end
mutual
theorem good_rng (w : List Int) : ∀ (r : Rx) (a : Nat) (fl : List Bool) (x p : Nat), Good w r a fl x p → a ≤ x ∧ x ≤ endOf r a
  | .mk k s l, a, fl, x, p, h => by
    simp only [Good] at h
    have : endOf (.mk k s l) a = a + 2 * sizeL l + 1 := by simp [endOf, sizeR]; omega
    rcases h with ⟨rfl, _⟩ | ⟨rfl, _⟩ | h
    · omega
    · omega
    · have := goodL_rng w k l (a + 1) _ x p h
      omega
theorem goodL_rng (w : List Int) (k : Int) : ∀ (l : List Rx) (a : Nat) (fl : List Bool) (x p : Nat), GoodL w k l a fl x p → a ≤ x ∧ x < a + 2 * sizeL l
  | [], a, fl, x, p, h => by simp [GoodL] at h
  | r :: l, a, fl, x, p, h => by
    simp only [GoodL] at h
    have hp := sizeR_pos r
    simp only [sizeL]
    rcases h with h | h
    · have := good_rng w r a fl x p h
      simp only [endOf] at this; omega
    · have := goodL_rng w k l _ _ x p h; omega
end
theorem good_start (w : List Int) (r : Rx) (a : Nat) {fl : List Bool} {p : Nat} (h : at' fl p) : Good w r a fl a p := by
  cases r; simp only [Good]; exact .inl ⟨trivial, h⟩
theorem good_end (w : List Int) (r : Rx) (a : Nat) {fl : List Bool} {p : Nat} (h : Good w r a fl (endOf r a) p) : at' (endsR w r fl) p := by
  cases r with
  | mk k s l =>
    simp only [Good] at h
    have he : endOf (.mk k s l) a = a + 2 * sizeL l + 1 := by simp [endOf, sizeR]; omega
    rcases h with ⟨h, _⟩ | ⟨_, h⟩ | h
    · omega
    · exact h
    · have := goodL_rng w k l (a + 1) _ _ p h; omega
theorem go_cases {n : Nfa} {w : List Int} {s p : Nat} {y : Nat × Nat} {l : List Nat} (h : FreeOnly n s l) (g : Go1 n w (s, p) y) : ∃ t ∈ l, y = (t, p) := by
  cases g with
  | eps ht =>
    rw [h.2] at ht
    obtain ⟨t', h1, h2⟩ := List.mem_map.1 ht
    exact ⟨t', h1, by rw [show t' = _ from Int.ofNat_inj.1 h2]⟩
  | sym _ hh _ => rw [hit_zero h.1] at hh; cases hh
theorem good_starts (w : List Int) (k : Int) (hk : k ≠ 2) : ∀ (l : List Rx) (a : Nat) {fl : List Bool} {p t : Nat}, t ∈ starts l a → at' fl p → GoodL w k l a fl t p
  | [], a, fl, p, t, h, _ => by simp [starts] at h
  | r :: l, a, fl, p, t, h, hp => by
    simp only [starts, List.mem_cons] at h
    simp only [GoodL, if_neg hk]
    rcases h with rfl | h
    · exact .inl (good_start w r _ hp)
    · exact .inr (good_starts w k hk l _ h hp)
theorem alt_acc (w : List Int) : ∀ (l : List Rx) (fl acc : List Bool) (p : Nat), fl.length = w.length + 1 → acc.length = w.length + 1 → at' acc p → at' (endsAlt w l fl acc) p
  | [], fl, acc, p, _, _, h => h
  | r :: l, fl, acc, p, hfl, hacc, h => by
    simp only [endsAlt]
    exact alt_acc w l fl _ p hfl (orB_len hacc (ends_len w r fl hfl)) ((at_or hacc (ends_len w r fl hfl)).2 (.inl h))
theorem alt_mem (w : List Int) : ∀ (l : List Rx) (fl acc : List Bool) (p : Nat), fl.length = w.length + 1 → acc.length = w.length + 1 → (∃ r ∈ l, at' (endsR w r fl) p) → at' (endsAlt w l fl acc) p
  | [], fl, acc, p, _, _, ⟨r, h, _⟩ => by cases h
  | r :: l, fl, acc, p, hfl, hacc, ⟨r', h, hp⟩ => by
    simp only [endsAlt]
    have hl := orB_len hacc (ends_len w r fl hfl)
    rcases List.mem_cons.1 h with rfl | h
    · exact alt_acc w l fl _ p hfl hl ((at_or hacc (ends_len w r' fl hfl)).2 (.inr hp))
    · exact alt_mem w l fl _ p hfl hl ⟨r', h, hp⟩
def ExitAt (w : List Int) (k : Int) (l : List Rx) (fl : List Bool) (p : Nat) : Prop := if k = 2 then at' (endsCat w l fl) p else ∃ r ∈ l, at' (endsR w r fl) p
mutual
theorem good_step (n : Nfa) (w : List Int) : ∀ (r : Rx) (a : Nat) (fl : List Bool) (x p : Nat) (y : Nat × Nat), Frag n r a → shapesR r = true → fl.length = w.length + 1 → Good w r a fl x p → x ≠ endOf r a → Go1 n w (x, p) y → Good w r a fl y.1 y.2
  | .mk k s l, a, fl, x, p, y, hf, hs, hfl, hg, hx, g => by
    obtain ⟨h1, h2⟩ := hf
    simp only [shapesR, Bool.and_eq_true] at hs
    obtain ⟨hs1, hsl⟩ := hs
    simp only [shape1] at hs1
    have hE := ends_len w (.mk k s l) fl hfl
    have hlen : ∀ y, y.length = w.length + 1 → (endsOne w l y).length = w.length + 1 := fun y hy => endsOne_len w l y hy
    have hstar : k = 4 → (∀ p, at' fl p → at' (endsR w (.mk k s l) fl) p) ∧ (∀ p, at' (endsOne w l (endsR w (.mk k s l) fl)) p → at' (endsR w (.mk k s l) fl) p) := by
      rintro rfl
      have e : endsR w (.mk 4 s l) fl = roundsB (endsOne w l) false (w.length + 1) fl := by rw [endsR]; rfl
      rw [e] at hE ⊢
      have hfix := rounds_fix hlen (w.length + 1) fl hfl (by have := cfB_le fl; omega)
      refine ⟨fun p hp => ?_, fun p hp => ?_⟩
      · exact rounds_inv hlen (fun L => at' L p) (fun L hL h => (at_or hL (hlen L hL)).2 (.inl h)) false _ fl hfl hp
      · rw [← hfix]; exact (at_or hE (hlen _ hE)).2 (.inr hp)
    have hopt : k = 5 → endsR w (.mk k s l) fl = orB fl (endsOne w l fl) := by
      rintro rfl
      have e : endsR w (.mk 5 s l) fl = roundsB (endsOne w l) ((5 : Int) == 5) (w.length + 1) fl := by rw [endsR]; rfl
      rw [e]; simp [roundsB]
    have hone : k = 4 ∨ k = 5 → ∃ z, l = [z] := fun hk => by
      have : l.length = 1 := by
        have e0 : ¬ k = 0 := by omega
        have e1 : ¬ k = 1 := by omega
        have e2 : ¬ (k = 2 ∨ k = 3) := by omega
        simp only [e0, e1, e2, if_false, if_pos hk, Bool.and_eq_true] at hs1
        simpa using hs1.1
      match l, this with
      | [z], _ => exact ⟨z, rfl⟩
    simp only [Good] at hg ⊢
    rcases hg with ⟨rfl, hp⟩ | ⟨h, _⟩ | hg
    · by_cases h0 : k = 0
      · subst h0
        obtain ⟨t, ht, rfl⟩ := go_cases (by simpa using h1) g
        simp at ht; subst ht
        exact .inr (.inl ⟨rfl, by simpa [endsR] using hp⟩)
      by_cases hk1 : k = 1
      · subst hk1
        simp only [if_true] at h1
        cases g with
        | eps ht => rw [h1.2.2] at ht; cases ht
        | sym g1 g2 g3 =>
          rw [h1.2.1] at g3
          refine .inr (.inl ⟨(Int.ofNat_inj.1 g3).symm, ?_⟩)
          have : endsR w (.mk 1 s l) fl = stepB s w fl := by simp [endsR]
          rw [this]
          exact (at_step hfl).2 ⟨p, _, rfl, hp, g1, by rw [hit, h1.1] at g2; exact g2⟩
      rw [if_neg hk1] at h1
      by_cases hk2 : k = 2
      · subst hk2
        obtain ⟨t, ht, rfl⟩ := go_cases (by simpa using h1) g
        simp at ht; subst ht
        cases l with
        | nil => simp at hs1
        | cons z l => exact .inr (.inr (by simp only [GoodL]; exact .inl (good_start w z _ (by simpa using hp))))
      by_cases hk3 : k = 3
      · subst hk3
        obtain ⟨t, ht, rfl⟩ := go_cases (by simpa using h1) g
        exact .inr (.inr (good_starts w 3 (by omega) l _ ht (by simpa using hp)))
      by_cases hk4 : k = 4 ∨ k = 5
      · obtain ⟨z, rfl⟩ := hone hk4
        simp only [if_neg h0, if_neg hk2, if_neg hk3] at h1
        obtain ⟨t, ht, rfl⟩ := go_cases h1 g
        simp only [List.mem_cons, List.not_mem_nil, or_false] at ht
        have hfl' : at' (if k = 4 then endsR w (.mk k s [z]) fl else fl) p := by
          by_cases h4 : k = 4
          · rw [if_pos h4]; exact (hstar h4).1 p hp
          · rw [if_neg h4]; exact hp
        rcases ht with rfl | rfl
        · exact .inr (.inr (by simp only [GoodL]; exact .inl (good_start w z _ hfl')))
        · refine .inr (.inl ⟨rfl, ?_⟩)
          rcases hk4 with h4 | h5
          · exact (hstar h4).1 p hp
          · rw [hopt h5]; exact (at_or hfl (hlen fl hfl)).2 (.inl hp)
      · exfalso
        have e2 : ¬ (k = 2 ∨ k = 3) := by omega
        simp [h0, hk1, e2, hk4] at hs1
    · exact absurd h hx
    · have hin : (if k = 4 then endsR w (.mk k s l) fl else fl).length = w.length + 1 := by split; exact hE; exact hfl
      rcases goodL_step n w k (a + 1) (endOf (.mk k s l) a) l (a + 1) _ x p y h2 hsl hin hg g with h | ⟨q, hy, hex⟩
      · exact .inr (.inr h)
      · by_cases hk2 : k = 2
        · subst hk2
          have hy' : y = (endOf (.mk 2 s l) a, q) := by rcases hy with h | ⟨h, _⟩; exact h; omega
          subst hy'
          refine .inr (.inl ⟨rfl, ?_⟩)
          simpa [ExitAt, endsR] using hex
        rw [ExitAt, if_neg hk2] at hex
        by_cases h4 : k = 4
        · obtain ⟨z, rfl⟩ := hone (.inl h4)
          obtain ⟨r, hr, hp⟩ := hex
          obtain rfl : r = z := by simpa using hr
          rw [if_pos h4] at hp
          have hX := (hstar h4).2 q hp
          rcases hy with rfl | ⟨_, rfl⟩
          · exact .inr (.inl ⟨rfl, hX⟩)
          · exact .inr (.inr (by simp only [GoodL]; exact .inl (good_start w r _ (by rw [if_pos h4]; exact hX))))
        · have hy' : y = (endOf (.mk k s l) a, q) := by rcases hy with h | ⟨h, _⟩; exact h; exact absurd h h4
          subst hy'
          rw [if_neg h4] at hex
          refine .inr (.inl ⟨rfl, ?_⟩)
          by_cases h5 : k = 5
          · obtain ⟨z, rfl⟩ := hone (.inr h5)
            obtain ⟨r, hr, hp⟩ := hex
            obtain rfl : r = z := by simpa using hr
            rw [hopt h5]
            exact (at_or hfl (hlen fl hfl)).2 (.inr hp)
          · by_cases h3 : k = 3
            · subst h3
              have e : endsR w (.mk 3 s l) fl = endsAlt w l fl (List.replicate (w.length + 1) false) := by rw [endsR]; rfl
              rw [e]
              exact alt_mem w l fl _ q hfl (by simp) hex
            · exfalso
              obtain ⟨r, hr, _⟩ := hex
              by_cases h0 : k = 0
              · subst h0; simp at hs1; rw [hs1.1] at hr; cases hr
              · by_cases h1 : k = 1
                · subst h1; simp at hs1; rw [hs1.1] at hr; cases hr
                · simp [h0, h1, show ¬ (k = 2 ∨ k = 3) by omega, show ¬ (k = 4 ∨ k = 5) by omega] at hs1
theorem goodL_step (n : Nfa) (w : List Int) (k : Int) (a0 b : Nat) : ∀ (l : List Rx) (a : Nat) (fl : List Bool) (x p : Nat) (y : Nat × Nat), FragL n k a0 b l a → shapesL l = true → fl.length = w.length + 1 → GoodL w k l a fl x p → Go1 n w (x, p) y → GoodL w k l a fl y.1 y.2 ∨ ∃ q, (y = (b, q) ∨ (k = 4 ∧ y = (a0, q))) ∧ ExitAt w k l fl q
  | [], a, fl, x, p, y, _, _, _, hg, _ => by simp [GoodL] at hg
  | r :: l, a, fl, x, p, y, hf, hs, hfl, hg, g => by
    simp only [FragL] at hf
    obtain ⟨h1, h2, h3⟩ := hf
    simp only [shapesL, Bool.and_eq_true] at hs
    simp only [GoodL] at hg ⊢
    rcases hg with hg | hg
    · by_cases hx : x = endOf r a
      · subst hx
        have hp := good_end w r a hg
        obtain ⟨t, ht, rfl⟩ := go_cases h2 g
        by_cases hk2 : k = 2
        · subst hk2
          simp only [if_true] at ht ⊢
          cases l with
          | nil =>
            simp at ht; subst ht
            exact .inr ⟨p, .inl rfl, by simpa [ExitAt, endsCat] using hp⟩
          | cons z l =>
            simp at ht; subst ht
            exact .inl (.inr (by simp only [GoodL]; exact .inl (good_start w z _ hp)))
        · rw [if_neg hk2] at ht
          have hex : ExitAt w k (r :: l) fl p := by rw [ExitAt, if_neg hk2]; exact ⟨r, by simp, hp⟩
          by_cases h4 : k = 4
          · rw [if_pos h4] at ht
            simp at ht
            rcases ht with rfl | rfl
            · exact .inr ⟨p, .inr ⟨h4, rfl⟩, hex⟩
            · exact .inr ⟨p, .inl rfl, hex⟩
          · rw [if_neg h4] at ht
            simp at ht; subst ht
            exact .inr ⟨p, .inl rfl, hex⟩
      · exact .inl (.inl (good_step n w r a fl x p y h1 hs.1 hfl hg hx g))
    · have hl' : (if k = 2 then endsR w r fl else fl).length = w.length + 1 := by split; exact ends_len w r fl hfl; exact hfl
      rcases goodL_step n w k a0 b l _ _ x p y h3 hs.2 hl' hg g with h | ⟨q, hy, hex⟩
      · exact .inl (.inr h)
      · refine .inr ⟨q, hy, ?_⟩
        by_cases hk2 : k = 2
        · subst hk2
          simpa [ExitAt, endsCat] using hex
        · rw [ExitAt, if_neg hk2] at hex ⊢
          rw [if_neg hk2] at hex
          obtain ⟨r', hr', h⟩ := hex
          exact ⟨r', by simp [hr'], h⟩
end
end Go.Proofs.W
end
/- The machine made has the expression's fragment. -/
section
set_option maxHeartbeats 4000000
set_option linter.unusedVariables false
set_option linter.unusedSimpArgs false
namespace Go.Proofs.W
open Go Vm Go.Proofs.Zs06

/-- a state is the same in two machines -/
def SameS (n n' : Nfa) (s : Nat) : Prop := n'.set.getD s 0 = n.set.getD s 0 ∧ n'.to.getD s 0 = n.to.getD s 0 ∧ n'.free.getD s [] = n.free.getD s []
theorem SameS.refl {n : Nfa} {s : Nat} : SameS n n s := ⟨rfl, rfl, rfl⟩
theorem SameS.trans {n n1 n2 : Nfa} {s : Nat} (h : SameS n n1 s) (g : SameS n1 n2 s) : SameS n n2 s := ⟨g.1.trans h.1, g.2.1.trans h.2.1, g.2.2.trans h.2.2⟩
theorem SameS.only {n n' : Nfa} {s : Nat} {l : List Nat} (h : SameS n n' s) (g : FreeOnly n s l) : FreeOnly n' s l := ⟨by rw [h.1]; exact g.1, by rw [h.2.2]; exact g.2⟩
theorem endOf_mk (k s : Int) (l : List Rx) (a : Nat) : endOf (.mk k s l) a = a + 2 * sizeL l + 1 := by simp [endOf, sizeR]; omega
mutual
theorem frag_keep {n n' : Nfa} : ∀ (r : Rx) (a : Nat), (∀ s, a ≤ s → s < endOf r a → SameS n n' s) → Frag n r a → Frag n' r a
  | .mk k s l, a, h, hf => by
    rw [endOf_mk] at h
    obtain ⟨h1, h2⟩ := hf
    have ha := h a (Nat.le_refl _) (by omega)
    refine ⟨?_, fragL_keep k (a + 1) _ l (a + 1) (fun s h3 h4 => h s (by omega) (by omega)) h2⟩
    split at h1
    · rename_i hk
      rw [if_pos hk]
      exact ⟨by rw [ha.1]; exact h1.1, by rw [ha.2.1]; exact h1.2.1, by rw [ha.2.2]; exact h1.2.2⟩
    · rename_i hk
      rw [if_neg hk]
      exact ha.only h1
theorem fragL_keep {n n' : Nfa} (k : Int) (a0 b : Nat) : ∀ (l : List Rx) (a : Nat), (∀ s, a ≤ s → s < a + 2 * sizeL l → SameS n n' s) → FragL n k a0 b l a → FragL n' k a0 b l a
  | [], _, _, _ => trivial
  | r :: l, a, h, hf => by
    obtain ⟨h1, h2, h3⟩ := hf
    have hp := sizeR_pos r
    simp only [sizeL] at h
    exact ⟨frag_keep r a (fun s g1 g2 => h s g1 (by simp only [endOf] at g2; omega)) h1, (h (endOf r a) (by simp only [endOf]; omega) (by simp only [endOf]; omega)).only h2, fragL_keep k a0 b l _ (fun s g1 g2 => h s (by omega) (by omega)) h3⟩
end
/-- kids, nothing going out of their ends -/
def FragR (n : Nfa) : List Rx → Nat → Prop
  | [], _ => True
  | r :: l, a => Frag n r a ∧ FreeOnly n (endOf r a) [] ∧ FragR n l (a + 2 * sizeR r)
theorem fragR_keep {n n' : Nfa} : ∀ (l : List Rx) (a : Nat), (∀ s, a ≤ s → s < a + 2 * sizeL l → SameS n n' s) → FragR n l a → FragR n' l a
  | [], _, _, _ => trivial
  | r :: l, a, h, hf => by
    obtain ⟨h1, h2, h3⟩ := hf
    have hp := sizeR_pos r
    simp only [sizeL] at h
    exact ⟨frag_keep r a (fun s g1 g2 => h s g1 (by simp only [endOf] at g2; omega)) h1, (h (endOf r a) (by simp only [endOf]; omega) (by simp only [endOf]; omega)).only h2, fragR_keep l _ (fun s g1 g2 => h s (by omega) (by omega)) h3⟩
def posL : List Rx → Nat → List (Nat × Nat)
  | [], _ => []
  | r :: l, a => (a, endOf r a) :: posL l (a + 2 * sizeR r)
theorem kids_pos : ∀ (l : List Rx) (n : Nfa), (kidsN l n).2 = posL l (kN n)
  | [], n => rfl
  | r :: l, n => by simp only [kidsN, posL, makeN_io, kids_pos l, makeN_k]
theorem addFree_same {n : Nfa} {f : Nat} {t : Int} {s : Nat} (h : s ≠ f) : SameS n (addFree n f t) s := by
  refine ⟨rfl, rfl, ?_⟩
  simp only [addFree, getD_set]
  rw [if_neg (fun e => h e.1.symm)]
theorem addFree_only {n : Nfa} {f t : Nat} {l : List Nat} (hf : f < n.free.length) (h : FreeOnly n f l) : FreeOnly (addFree n f (t : Int)) f (l ++ [t]) := by
  refine ⟨h.1, ?_⟩
  simp only [addFree, getD_set]
  rw [if_pos ⟨trivial, hf⟩, h.2]; simp
theorem addState_same {n : Nfa} (h1 : n.free.length = kN n) (h2 : n.to.length = kN n) {s : Nat} (hs : s ≠ kN n) : SameS n (addState n) s := by
  simp only [kN] at hs h1 h2
  refine ⟨?_, ?_, ?_⟩ <;> simp only [addState, getD_push]
  · rw [if_neg hs]
  · rw [h2, if_neg hs]
  · rw [h1, if_neg hs]
theorem addState_new {n : Nfa} (h1 : n.free.length = kN n) : FreeOnly (addState n) (kN n) [] := by
  simp only [kN] at h1 ⊢
  refine ⟨?_, ?_⟩ <;> simp only [addState, getD_push]
  · simp
  · rw [h1]; simp
theorem catW_frag (a0 o : Nat) : ∀ (l : List Rx) (n : Nfa) (last a : Nat), n.free.length = kN n → a + 2 * sizeL l ≤ o → o < kN n → last < a → FreeOnly n last [] → FragR n l a →
    FreeOnly (catW o n last (posL l a)) last [if l.isEmpty then o else a] ∧ FragL (catW o n last (posL l a)) 2 a0 o l a ∧ ∀ s, s ≠ last → (s < a ∨ a + 2 * sizeL l ≤ s) → SameS n (catW o n last (posL l a)) s
  | [], n, last, a, hlen, ho, hon, hl, hF, _ => by
    simp only [posL, catW]
    exact ⟨by simpa using addFree_only (l := []) (t := o) (by omega) hF, trivial, fun s hs _ => addFree_same hs⟩
  | r :: l, n, last, a, hlen, ho, hon, hl, hF, hR => by
    obtain ⟨r1, r2, r3⟩ := hR
    have hp := sizeR_pos r
    simp only [sizeL] at ho
    simp only [posL, catW]
    have hsame : ∀ s, s ≠ last → SameS n (addFree n last (a : Int)) s := fun s hs => addFree_same hs
    have hlen1 : (addFree n last (a : Int)).free.length = kN (addFree n last (a : Int)) := by rw [addFree_k, (addFree_len n last _).2, hlen]
    obtain ⟨g1, g2, g3⟩ := catW_frag a0 o l (addFree n last (a : Int)) (endOf r a) (a + 2 * sizeR r) hlen1 (by omega) hon (by simp only [endOf]; omega) ((hsame _ (by simp only [endOf]; omega)).only r2) (fragR_keep l _ (fun s h1 h2 => hsame s (by omega)) r3)
    have hlast := g3 last (by simp only [endOf]; omega) (.inl (by omega))
    refine ⟨?_, ⟨frag_keep r a (fun s h1 h2 => (hsame s (by omega)).trans (g3 s (by omega) (.inl (by simp only [endOf] at h2; omega)))) r1, ?_, g2⟩, fun s hs h => ?_⟩
    · have := addFree_only (t := a) (l := []) (by omega) hF
      simpa using hlast.only this
    · simpa using g1
    · simp only [sizeL] at h
      exact (hsame s hs).trans (g3 s (by simp only [endOf]; omega) (by omega))
theorem altW_frag (a0 i o : Nat) : ∀ (l : List Rx) (n : Nfa) (a : Nat) (F : List Nat), n.free.length = kN n → a + 2 * sizeL l ≤ o → o < kN n → i < a → FreeOnly n i F → FragR n l a →
    FreeOnly (altW i o n (posL l a)) i (F ++ starts l a) ∧ FragL (altW i o n (posL l a)) 3 a0 o l a ∧ ∀ s, s ≠ i → (s < a ∨ a + 2 * sizeL l ≤ s) → SameS n (altW i o n (posL l a)) s
  | [], n, a, F, hlen, ho, hon, hi, hF, _ => by
    simp only [posL, altW, starts, List.append_nil]
    exact ⟨hF, trivial, fun s _ _ => SameS.refl⟩
  | r :: l, n, a, F, hlen, ho, hon, hi, hF, hR => by
    obtain ⟨r1, r2, r3⟩ := hR
    have hp := sizeR_pos r
    simp only [sizeL] at ho
    simp only [posL, altW]
    have hne : endOf r a ≠ i := by simp only [endOf]; omega
    have hs1 : ∀ s, s ≠ i → SameS n (addFree n i (a : Int)) s := fun s hs => addFree_same hs
    have hs2 : ∀ s, s ≠ endOf r a → SameS (addFree n i (a : Int)) (addFree (addFree n i (a : Int)) (endOf r a) (o : Int)) s := fun s hs => addFree_same hs
    have hlen1 : (addFree n i (a : Int)).free.length = kN n := by rw [(addFree_len n i _).2, hlen]
    have hlen2 : (addFree (addFree n i (a : Int)) (endOf r a) (o : Int)).free.length = kN n := by rw [(addFree_len _ _ _).2, hlen1]
    have hFi : FreeOnly (addFree (addFree n i (a : Int)) (endOf r a) (o : Int)) i (F ++ [a]) := (hs2 i (fun e => hne e.symm)).only (addFree_only (by omega) hF)
    have hEo : FreeOnly (addFree (addFree n i (a : Int)) (endOf r a) (o : Int)) (endOf r a) [o] := by
      have := addFree_only (t := o) (l := []) (by rw [hlen1]; simp only [endOf]; omega) ((hs1 _ hne).only r2)
      simpa using this
    generalize hN : addFree (addFree n i (a : Int)) (endOf r a) (o : Int) = N at *
    have hkN : kN N = kN n := by rw [← hN]; rfl
    obtain ⟨g1, g2, g3⟩ := altW_frag a0 i o l N (a + 2 * sizeR r) (F ++ [a]) (by rw [hlen2, hkN]) (by omega) (by omega) (by omega) hFi (fragR_keep l _ (fun s h1 h2 => (hs1 s (by omega)).trans (hs2 s (by simp only [endOf]; omega))) r3)
    refine ⟨by simpa [starts] using g1, ⟨frag_keep r a (fun s h1 h2 => ((hs1 s (by omega)).trans (hs2 s (by omega))).trans (g3 s (by omega) (.inl (by simp only [endOf] at h2; omega)))) r1, ?_, g2⟩, fun s hs h => ?_⟩
    · have := (g3 (endOf r a) hne (.inl (by simp only [endOf]; omega))).only hEo
      simpa using this
    · simp only [sizeL] at h
      exact ((hs1 s hs).trans (hs2 s (by simp only [endOf]; omega))).trans (g3 s hs (by omega))
mutual
theorem make_frag : ∀ (r : Rx) (n : Nfa), OkM n → shapesR r = true → Frag (makeN r n).1 r (kN n) ∧ FreeOnly (makeN r n).1 (endOf r (kN n)) [] ∧ ∀ s, s < kN n → SameS n (makeN r n).1 s
  | .mk k s l, n, hn, hs => by
    simp only [shapesR, Bool.and_eq_true] at hs
    obtain ⟨hs1, hsl⟩ := hs
    have hn1 := hn.addState
    obtain ⟨hR, hkeep⟩ := kids_frag l (addState n) hn1 hsl
    have hk := kidsN_k l (addState n)
    have hn2 := OkM.kidsN l (addState n) hn1
    have hpos := kids_pos l (addState n)
    rw [addState_k] at hk hR hkeep hpos
    have hN3 := hn2.addState
    have hk3 := addState_k (kidsN l (addState n)).1
    have hend : endOf (.mk k s l) (kN n) = kN (kidsN l (addState n)).1 := by rw [endOf_mk, hk]; omega
    have hsame2 : ∀ x, x ≠ kN (kidsN l (addState n)).1 → SameS (kidsN l (addState n)).1 (addState (kidsN l (addState n)).1) x := fun x hx => addState_same hn2.lF hn2.lT hx
    have ha : FreeOnly (addState (kidsN l (addState n)).1) (kN n) [] := (hsame2 _ (by omega)).only ((hkeep _ (by omega)).only (addState_new hn.lF))
    have hb : FreeOnly (addState (kidsN l (addState n)).1) (endOf (.mk k s l) (kN n)) [] := by rw [hend]; exact addState_new hn2.lF
    have hR3 : FragR (addState (kidsN l (addState n)).1) l (kN n + 1) := fragR_keep l _ (fun x h1 h2 => hsame2 x (by omega)) hR
    have hold : ∀ x, x < kN n → SameS n (addState (kidsN l (addState n)).1) x := fun x hx => ((addState_same hn.lF hn.lT (by omega)).trans (hkeep x (by omega))).trans (hsame2 x (by omega))
    have hmk : (makeN (.mk k s l) n).1 = wire k s (kN n) (endOf (.mk k s l) (kN n)) (posL l (kN n + 1)) (addState (kidsN l (addState n)).1) := by
      rw [makeN, hend]; simp only [hpos]
    rw [hmk]
    have hlenF := hN3.lF
    generalize hN : addState (kidsN l (addState n)).1 = N at *
    have hkN : kN N = kN n + 1 + 2 * sizeL l + 1 := by omega
    rw [endOf_mk] at hb hend ⊢
    clear hmk hpos hsame2 hkeep hR hn1 hn2 hk3 hk hend
    have hEN : kN n + 2 * sizeL l + 1 < kN N := by omega
    simp only [shape1] at hs1
    unfold wire
    simp only [Frag, endOf_mk]
    have hAB : kN n + 2 * sizeL l + 1 ≠ kN n := by omega
    by_cases h0 : k = 0
    · subst h0
      have hl : l = [] := by simp at hs1; exact hs1.1
      subst hl
      simp only [if_true, if_neg (show ¬ (0 : Int) = 1 by omega)]
      have h1 := addFree_only (t := kN n + 2 * sizeL [] + 1) (by omega) ha
      exact ⟨⟨h1, trivial⟩, (addFree_same hAB).only hb, fun x hx => (hold x hx).trans (addFree_same (by omega))⟩
    rw [if_neg h0]
    by_cases hk1 : k = 1
    · subst hk1
      have hl : l = [] := by simp at hs1; exact hs1.1
      subst hl
      simp only [if_true]
      have hlT := hN3.lT
      have hget : ∀ x, x ≠ kN n → SameS N (setTo N (kN n) s (kN n + 2 * sizeL [] + 1)) x := fun x hx => by
        refine ⟨?_, ?_, rfl⟩ <;> simp only [setTo, getD_set]
        · rw [if_neg (fun e => hx e.1.symm)]
        · rw [if_neg (fun e => hx e.1.symm)]
      refine ⟨⟨⟨?_, ?_, ?_⟩, trivial⟩, (hget _ hAB).only hb, fun x hx => (hold x hx).trans (hget x (by omega))⟩
      · simp only [setTo, getD_set]; rw [if_pos ⟨trivial, by simp only [kN] at hkN ⊢; omega⟩]
      · simp only [setTo, getD_set]; rw [if_pos ⟨trivial, by simp only [kN] at hkN hlT ⊢; omega⟩]
      · have := ha.2; simpa [setTo] using this
    rw [if_neg hk1, if_neg hk1]
    by_cases hk2 : k = 2
    · subst hk2
      simp only [if_true, if_neg (show ¬ (2 : Int) = 0 by omega)]
      have hne : l ≠ [] := by intro e; subst e; simp at hs1
      have hem : l.isEmpty = false := by cases l with | nil => exact absurd rfl hne | cons x y => rfl
      obtain ⟨g1, g2, g3⟩ := catW_frag (kN n + 1) (kN n + 2 * sizeL l + 1) l N (kN n) (kN n + 1) hlenF (by omega) (by omega) (by omega) ha hR3
      rw [hem] at g1
      exact ⟨⟨by simpa using g1, g2⟩, (g3 _ hAB (.inr (by omega))).only hb, fun x hx => (hold x hx).trans (g3 x (by omega) (.inl (by omega)))⟩
    rw [if_neg hk2]
    by_cases hk3 : k = 3
    · subst hk3
      simp only [if_true, if_neg (show ¬ (3 : Int) = 0 by omega), if_neg (show ¬ (3 : Int) = 2 by omega)]
      obtain ⟨g1, g2, g3⟩ := altW_frag (kN n + 1) (kN n) (kN n + 2 * sizeL l + 1) l N (kN n + 1) [] hlenF (by omega) (by omega) (by omega) ha hR3
      exact ⟨⟨by simpa using g1, g2⟩, (g3 _ hAB (.inr (by omega))).only hb, fun x hx => (hold x hx).trans (g3 x (by omega) (.inl (by omega)))⟩
    rw [if_neg hk3]
    have hk45 : k = 4 ∨ k = 5 := by
      by_cases h : k = 4 ∨ k = 5
      · exact h
      · simp [h0, hk1, show ¬ (k = 2 ∨ k = 3) by omega, h] at hs1
    obtain ⟨z, rfl⟩ : ∃ z, l = [z] := by
      have : l.length = 1 := by
        simp only [h0, hk1, if_false, show ¬ (k = 2 ∨ k = 3) by omega, if_pos hk45, Bool.and_eq_true] at hs1
        simpa using hs1.1
      match l, this with
      | [z], _ => exact ⟨z, rfl⟩
    obtain ⟨r1, r2, -⟩ := hR3
    have hp := sizeR_pos z
    simp only [posL, sizeL, Nat.add_zero] at hkN hb hAB hEN hlenF ⊢
    simp only [if_neg h0, if_neg hk2, if_neg hk3]
    have hne : endOf z (kN n + 1) ≠ kN n := by simp only [endOf]; omega
    have opt : ∀ (N' : Nfa) (F : List Nat), N'.free.length = kN N → FreeOnly N' (kN n) [] → FreeOnly N' (endOf z (kN n + 1)) F → (∀ x, x ≠ endOf z (kN n + 1) → SameS N N' x) →
        FreeOnly (optW N' (kN n) (kN n + 2 * sizeR z + 1) (kN n + 1) (endOf z (kN n + 1))) (kN n) [kN n + 1, kN n + 2 * sizeR z + 1] ∧ FreeOnly (optW N' (kN n) (kN n + 2 * sizeR z + 1) (kN n + 1) (endOf z (kN n + 1))) (endOf z (kN n + 1)) (F ++ [kN n + 2 * sizeR z + 1]) ∧ ∀ x, x ≠ kN n → x ≠ endOf z (kN n + 1) → SameS N (optW N' (kN n) (kN n + 2 * sizeR z + 1) (kN n + 1) (endOf z (kN n + 1))) x := by
      intro N' F hl hA hE hS
      have q1 := addFree_only (t := kN n + 1) (by rw [hl]; omega) hA
      have l1 : (addFree N' (kN n) ((kN n + 1 : Nat) : Int)).free.length = kN N := by rw [(addFree_len _ _ _).2, hl]
      have q2 := addFree_only (t := kN n + 2 * sizeR z + 1) (by rw [l1]; omega) q1
      have l2 : (addFree (addFree N' (kN n) ((kN n + 1 : Nat) : Int)) (kN n) ((kN n + 2 * sizeR z + 1 : Nat) : Int)).free.length = kN N := by rw [(addFree_len _ _ _).2, l1]
      have e2 : FreeOnly (addFree (addFree N' (kN n) ((kN n + 1 : Nat) : Int)) (kN n) ((kN n + 2 * sizeR z + 1 : Nat) : Int)) (endOf z (kN n + 1)) F := ((addFree_same hne).trans (addFree_same hne)).only hE
      have q3 := addFree_only (t := kN n + 2 * sizeR z + 1) (by rw [l2]; simp only [endOf]; omega) e2
      exact ⟨by simpa [optW] using (addFree_same (fun e => hne e.symm)).only q2, q3, fun x hx hx2 => (((hS x hx2).trans (addFree_same hx)).trans (addFree_same hx)).trans (addFree_same hx2)⟩
    have fin : ∀ (N' : Nfa), (∀ x, x ≠ kN n → x ≠ endOf z (kN n + 1) → SameS N N' x) → Frag N' z (kN n + 1) ∧ FreeOnly N' (kN n + 2 * sizeR z + 1) [] ∧ ∀ x, x < kN n → SameS n N' x := fun N' hS =>
      ⟨frag_keep z _ (fun x h1 h2 => hS x (by omega) (by omega)) r1, (hS _ (by omega) (by simp only [endOf]; omega)).only hb, fun x hx => (hold x hx).trans (hS x (by omega) (by simp only [endOf]; omega))⟩
    by_cases h4 : k = 4
    · subst h4
      simp only [if_true]
      obtain ⟨o1, o2, o3⟩ := opt (addFree N (endOf z (kN n + 1)) ((kN n + 1 : Nat) : Int)) [kN n + 1] (by rw [(addFree_len _ _ _).2]; exact hlenF) ((addFree_same (fun e => hne e.symm)).only ha) (by simpa using addFree_only (t := kN n + 1) (l := []) (by rw [hlenF]; simp only [endOf]; omega) r2) (fun x hx => addFree_same hx)
      obtain ⟨f1, f2, f3⟩ := fin _ o3
      exact ⟨⟨o1, f1, by simpa using o2, trivial⟩, f2, f3⟩
    · have h5 : k = 5 := by omega
      subst h5
      simp only [if_true, if_neg (show ¬ (5 : Int) = 4 by omega)]
      obtain ⟨o1, o2, o3⟩ := opt N [] hlenF ha r2 (fun x _ => SameS.refl)
      obtain ⟨f1, f2, f3⟩ := fin _ o3
      exact ⟨⟨o1, f1, by simpa using o2, trivial⟩, f2, f3⟩
theorem kids_frag : ∀ (l : List Rx) (n : Nfa), OkM n → shapesL l = true → FragR (kidsN l n).1 l (kN n) ∧ ∀ s, s < kN n → SameS n (kidsN l n).1 s
  | [], n, _, _ => ⟨trivial, fun _ _ => SameS.refl⟩
  | r :: l, n, hn, hs => by
    simp only [shapesL, Bool.and_eq_true] at hs
    obtain ⟨h1, h2, h3⟩ := make_frag r n hn hs.1
    have hk := makeN_k r n
    obtain ⟨g1, g2⟩ := kids_frag l (makeN r n).1 (OkM.makeN r n hn) hs.2
    have hp := sizeR_pos r
    rw [hk] at g1 g2
    simp only [kidsN]
    exact ⟨⟨frag_keep r _ (fun s _ h => g2 s (by simp only [endOf] at h; omega)) h1, (g2 _ (by simp only [endOf]; omega)).only h2, g1⟩, fun s hs => (h3 s hs).trans (g2 s (by omega))⟩
end
end Go.Proofs.W
end
/- The machine of expressions: to which states a word leads. -/
section
set_option maxHeartbeats 4000000
set_option linter.unusedVariables false
set_option linter.unusedSimpArgs false
namespace Go.Proofs.W
open Go Vm Go.Proofs.Zs06

theorem setTo_rule (n : Nfa) (i : Nat) (s : Int) (o : Nat) : (setTo n i s o).rule = n.rule := rfl
theorem catW_rule (o : Nat) : ∀ (ps : List (Nat × Nat)) (n : Nfa) (last : Nat), (catW o n last ps).rule = n.rule
  | [], _, _ => rfl
  | p :: r, n, last => by rw [catW, catW_rule o r]; rfl
theorem altW_rule (i o : Nat) : ∀ (ps : List (Nat × Nat)) (n : Nfa), (altW i o n ps).rule = n.rule
  | [], _ => rfl
  | p :: r, n => by rw [altW, altW_rule i o r]; rfl
theorem wire_rule (k s : Int) (i o : Nat) (ps : List (Nat × Nat)) (n : Nfa) : (wire k s i o ps n).rule = n.rule := by
  unfold wire
  split
  · rfl
  split
  · rfl
  split
  · exact catW_rule ..
  split
  · exact altW_rule ..
  split
  · rfl
  split
  · rfl
  split
  · rfl
  · rfl
mutual
theorem makeN_rule : ∀ (r : Rx) (n : Nfa), (makeN r n).1.rule = n.rule ++ List.replicate (2 * sizeR r) (-1)
  | .mk k s l, n => by
    have := kidsN_rule l (addState n)
    simp only [makeN, wire_rule, addState, sizeR] at this ⊢
    rw [this, List.append_assoc, List.append_assoc]
    congr 1
    rw [show [(-1 : Int)] = List.replicate 1 (-1) from rfl, List.replicate_append_replicate, List.replicate_append_replicate]
    congr 1; omega
theorem kidsN_rule : ∀ (l : List Rx) (n : Nfa), (kidsN l n).1.rule = n.rule ++ List.replicate (2 * sizeL l) (-1)
  | [], n => by simp [kidsN, sizeL]
  | r :: l, n => by
    simp only [kidsN, kidsN_rule l, makeN_rule r, sizeL, List.append_assoc]
    rw [List.replicate_append_replicate]
    congr 2; omega
end
/-- where expressions that lie one behind the other end -/
def endsP : List Rx → Nat → List Nat
  | [], _ => []
  | r :: l, a => endOf r a :: endsP l (a + 2 * sizeR r)
theorem endsP_len : ∀ (l : List Rx) (a : Nat), (endsP l a).length = l.length
  | [], _ => rfl
  | r :: l, a => by simp [endsP, endsP_len l]
theorem endsP_app (r : Rx) : ∀ (l : List Rx) (a : Nat), endsP (l ++ [r]) a = endsP l a ++ [endOf r (a + 2 * sizeL l)]
  | [], a => by simp [endsP, sizeL]
  | x :: l, a => by simp only [List.cons_append, endsP, endsP_app r l, sizeL]; rw [show a + 2 * sizeR x + 2 * sizeL l = a + 2 * (sizeR x + sizeL l) by omega]
theorem endsP_rng : ∀ (l : List Rx) (a : Nat), ∀ s ∈ endsP l a, a < s ∧ s < a + 2 * sizeL l
  | [], a, s, h => by cases h
  | r :: l, a, s, h => by
    have hp := sizeR_pos r
    simp only [endsP, List.mem_cons] at h
    simp only [sizeL]
    rcases h with rfl | h
    · simp only [endOf]; omega
    · have := endsP_rng l _ s h; omega
theorem starts_app (r : Rx) : ∀ (l : List Rx) (a : Nat), starts (l ++ [r]) a = starts l a ++ [a + 2 * sizeL l]
  | [], a => by simp [starts, sizeL]
  | x :: l, a => by simp only [List.cons_append, starts, starts_app r l, sizeL]; rw [show a + 2 * sizeR x + 2 * sizeL l = a + 2 * (sizeR x + sizeL l) by omega]
theorem fragR_app {n : Nfa} (r : Rx) : ∀ (l : List Rx) (a : Nat), FragR n l a → Frag n r (a + 2 * sizeL l) → FreeOnly n (endOf r (a + 2 * sizeL l)) [] → FragR n (l ++ [r]) a
  | [], a, _, h1, h2 => ⟨by simpa [sizeL] using h1, by simpa [sizeL] using h2, trivial⟩
  | x :: l, a, h, h1, h2 => by
    simp only [sizeL] at h1 h2
    have e : a + 2 * (sizeR x + sizeL l) = a + 2 * sizeR x + 2 * sizeL l := by omega
    rw [e] at h1 h2
    exact ⟨h.1, h.2.1, fragR_app r l _ h.2.2 h1 h2⟩
structure Pre (n : Nfa) (l : List Rx) : Prop where
  ok : OkM n
  k : kN n = 1 + 2 * sizeL l
  s0 : FreeOnly n 0 (starts l 1)
  fr : FragR n l 1
  ru : ∀ (s i : Nat), n.rule.getD s (-1) = (i : Int) ↔ (endsP l 1)[i]? = some s
theorem pre_zero : Pre (addState emptyN) [] := by
  refine ⟨OkM.addState ⟨rfl, rfl, rfl, fun i x hx => by simp [emptyN] at hx, fun i hi => by simp [emptyN] at hi, fun i => by simp [emptyN]⟩, rfl, ⟨rfl, rfl⟩, trivial, fun s i => ?_⟩
  simp only [addState, emptyN, endsP, List.nil_append]
  cases s with
  | zero => simp
  | succ s => simp
theorem pre_step {n : Nfa} {l : List Rx} (h : Pre n l) (r : Rx) (hs : shapesR r = true) (hl : l.length < 16) : Pre (setRule (addFree (makeN r n).1 0 (makeN r n).2.1) (makeN r n).2.2 (l.length : Int)) (l ++ [r]) := by
  obtain ⟨m1, m2, m3⟩ := make_frag r n h.ok hs
  have hk := makeN_k r n
  have hru := makeN_rule r n
  have hok := OkM.makeN r n h.ok
  have hp := sizeR_pos r
  have hsz := sizeL_app [r] l
  simp only [sizeL, Nat.add_zero] at hsz
  rw [makeN_io]
  simp only
  have hsame : ∀ s, s ≠ 0 → SameS (makeN r n).1 (setRule (addFree (makeN r n).1 0 ((kN n : Nat) : Int)) (endOf r (kN n)) (l.length : Int)) s := fun s hs => (addFree_same hs).trans ⟨rfl, rfl, rfl⟩
  have hk0 : kN n = 1 + 2 * sizeL l := h.k
  refine ⟨(hok.addFree 0 _ ⟨by omega, by omega⟩).setRule _ _ ⟨by omega, by omega⟩, ?_, ?_, ?_, fun s i => ?_⟩
  · show kN (makeN r n).1 = _
    rw [hk, hsz, hk0]; omega
  · have := addFree_only (t := kN n) (by rw [hok.lF]; omega) ((m3 0 (by omega)).only h.s0)
    rw [starts_app, ← hk0]
    exact ⟨this.1, this.2⟩
  · refine fragR_app r l 1 (fragR_keep l 1 (fun s h1 h2 => (m3 s (by omega)).trans (hsame s (by omega))) h.fr) ?_ ?_
    · rw [← hk0]; exact frag_keep r _ (fun s h1 h2 => hsame s (by omega)) m1
    · rw [← hk0]; exact (hsame _ (by simp only [endOf]; omega)).only m2
  · have hend : endOf r (kN n) = (endsP (l ++ [r]) 1).getD l.length 0 := by
      rw [endsP_app, List.getD_eq_getElem?_getD, List.getElem?_append_right (by rw [endsP_len]; omega), endsP_len, ← hk0]; simp
    simp only [setRule, addFree, hru, getD_set]
    have hlenR : (n.rule ++ List.replicate (2 * sizeR r) (-1)).length = kN n + 2 * sizeR r := by simp [h.ok.lR]
    rw [hlenR]
    have hold : (n.rule ++ List.replicate (2 * sizeR r) (-1)).getD s (-1) = n.rule.getD s (-1) := by
      simp only [List.getD_eq_getElem?_getD]
      rcases Nat.lt_or_ge s n.rule.length with h' | h'
      · rw [List.getElem?_append_left h']
      · rw [List.getElem?_append_right h', List.getElem?_eq_none h', List.getElem?_replicate]
        split <;> rfl
    rw [hold, endsP_app, ← hk0]
    by_cases hs : endOf r (kN n) = s
    · rw [if_pos ⟨hs, by show kN n + 2 * sizeR r - 1 < _; omega⟩]
      constructor
      · intro e
        have : l.length = i := by omega
        subst this
        rw [List.getElem?_append_right (by rw [endsP_len]; omega), endsP_len, hs]; simp
      · intro e
        rcases Nat.lt_or_ge i l.length with h' | h'
        · rw [List.getElem?_append_left (by rw [endsP_len]; omega)] at e
          have := endsP_rng l 1 s (List.mem_of_getElem? e)
          simp only [endOf] at hs; omega
        · rw [List.getElem?_append_right (by rw [endsP_len]; omega), endsP_len] at e
          cases hx : i - l.length with
          | zero => omega
          | succ m => rw [hx] at e; simp at e
    · rw [if_neg (fun e => hs e.1), h.ru]
      rcases Nat.lt_or_ge i l.length with h' | h'
      · rw [List.getElem?_append_left (by rw [endsP_len]; omega)]
      · rw [List.getElem?_append_right (by rw [endsP_len]; omega), endsP_len, List.getElem?_eq_none (by rw [endsP_len]; omega)]
        cases hx : i - l.length with
        | zero => simpa using hs
        | succ m => simp
theorem build_pre : ∀ (l done : List Rx) (n n' : Nfa), Pre n done → done.length + l.length ≤ 16 → buildFrom done.length l n = some n' → Pre n' (done ++ l) ∧ ∀ r ∈ l, rightR r = true
  | [], done, n, n', h, _, hb => by
    have : n = n' := by simpa [buildFrom] using hb
    subst this
    exact ⟨by simpa using h, by simp⟩
  | r :: l, done, n, n', h, hl, hb => by
    rw [buildFrom] at hb
    split at hb
    · rename_i hr
      have hsh := (sizes (l := [r]) (by simpa using hr) r (by simp)).2
      simp only [List.length_cons] at hl
      have := pre_step h r hsh (by omega)
      have e : done.length + 1 = (done ++ [r]).length := by simp
      rw [e] at hb
      obtain ⟨g1, g2⟩ := build_pre l (done ++ [r]) _ n' this (by simp; omega) hb
      refine ⟨by simpa using g1, fun x hx => ?_⟩
      rcases List.mem_cons.1 hx with rfl | hx
      · exact hr
      · exact g2 x hx
    · cases hb
theorem buildN_pre {l : List Rx} {n : Nfa} (h : buildN l = some n) : Pre n l ∧ ∀ r ∈ l, rightR r = true := by
  unfold buildN at h
  split at h
  · rename_i hl
    exact build_pre l [] _ n pre_zero (by simpa using hl.2) h
  · cases h
end Go.Proofs.W
end
/- The machine of expressions matches a word by the least rule that has it. -/
section
set_option maxHeartbeats 4000000
set_option linter.unusedVariables false
set_option linter.unusedSimpArgs false
namespace Go.Proofs.W
open Go Vm Go.Proofs.Zs06

theorem clos_sub {n : Nfa} {l : List Int} {s t : Nat} (hs : (s : Int) ∈ clos n l) (ht : (t : Int) ∈ n.free.getD s []) (hk : t < n.set.length) : (t : Int) ∈ clos n l := by
  obtain ⟨i, h1, h2, h3⟩ := mem_listZ.1 hs
  obtain rfl : s = i := by omega
  exact mem_listZ.2 ⟨t, hk, clo_iff.2 (.step (clo_iff.1 h2) ht), rfl⟩
theorem at_path {n : Nfa} (hok : OkM n) (h1 : 1 ≤ kN n) (w : List Int) : ∀ x y, Path n w x y → x = (0, 0) → y.1 < kN n ∧ y.2 ≤ w.length ∧ ((y.1 : Nat) : Int) ∈ atN n (w.take y.2) := by
  intro x y h
  induction h with
  | refl =>
    rintro rfl
    refine ⟨h1, Nat.zero_le _, ?_⟩
    exact mem_listZ.2 ⟨0, h1, clo_iff.2 (.base ⟨h1, by simp⟩), rfl⟩
  | step _ g ih =>
    intro e
    obtain ⟨i1, i2, i3⟩ := ih e
    cases g with
    | @eps s t p ht =>
      have := hok.fr s t ht
      have htk : t < kN n := by omega
      obtain ⟨l, hl⟩ := atN_clos n (w.take p)
      simp only at i1 i2 i3 ⊢
      rw [hl] at i3 ⊢
      exact ⟨htk, i2, clos_sub i3 ht htk⟩
    | @sym s t p c hc hh hto =>
      simp only at i1 i2 i3 ⊢
      have hp : p < w.length := by
        rcases Nat.lt_or_ge p w.length with h | h
        · exact h
        · rw [List.getElem?_eq_none h] at hc; cases hc
      have hset : n.set.getD s 0 ≠ 0 := fun e => by rw [hit_zero e] at hh; cases hh
      have hst := hok.st s hset
      have htk : t < kN n := by omega
      refine ⟨htk, by omega, ?_⟩
      rw [atN_take hp]
      have hcw : w[p] = c := by rw [List.getElem?_eq_getElem hp] at hc; exact Option.some.inj hc
      rw [hcw]
      refine mem_listZ.2 ⟨t, htk, clo_iff.2 (.base ⟨htk, mem_listZ.2 ⟨t, htk, ?_, rfl⟩⟩), rfl⟩
      simp only [stepTo, List.any_eq_true, List.mem_range, Bool.and_eq_true, decide_eq_true_eq]
      exact ⟨s, i1, ⟨i3, hh⟩, hto⟩
theorem path_at {n : Nfa} (w : List Int) : ∀ (j s : Nat), j ≤ w.length → (s : Int) ∈ atN n (w.take j) → Path n w (0, 0) (s, j)
  | 0, s, _, h => by
    obtain ⟨i, h1, h2, h3⟩ := mem_listZ.1 h
    obtain rfl : s = i := by omega
    have hr := clo_iff.1 h2
    clear h h1 h2 h3
    induction hr with
    | @base s' hb =>
      have e : s' = 0 := by simpa [inS] using hb.2
      subst e; exact .refl
    | step _ ht ih => exact .step ih (.eps ht)
  | j + 1, s, hj, h => by
    have hjw : j < w.length := by omega
    rw [atN_take hjw] at h
    obtain ⟨i, h1, h2, h3⟩ := mem_listZ.1 h
    obtain rfl : s = i := by omega
    have hr := clo_iff.1 h2
    clear h h1 h2 h3
    induction hr with
    | base hb =>
      obtain ⟨t, g1, g2, g3⟩ := mem_listZ.1 hb.2
      simp only [stepTo, List.any_eq_true, List.mem_range, Bool.and_eq_true, decide_eq_true_eq] at g2
      obtain ⟨x, k1, ⟨k2, k3⟩, k4⟩ := g2
      rw [← g3] at k4
      exact .step (path_at w j x (by omega) k2) (.sym (List.getElem?_eq_getElem hjw) k3 k4)
    | step _ ht ih => exact .step ih (.eps ht)
theorem goodR_step {n : Nfa} {w : List Int} : ∀ (l : List Rx) (a : Nat) (fl : List Bool) (x p : Nat) (y : Nat × Nat), FragR n l a → shapesL l = true → fl.length = w.length + 1 → GoodL w 3 l a fl x p → Go1 n w (x, p) y → GoodL w 3 l a fl y.1 y.2
  | [], a, fl, x, p, y, _, _, _, hg, _ => by simp [GoodL] at hg
  | r :: l, a, fl, x, p, y, hf, hs, hfl, hg, g => by
    obtain ⟨h1, h2, h3⟩ := hf
    simp only [shapesL, Bool.and_eq_true] at hs
    simp only [GoodL, if_neg (show ¬ (3 : Int) = 2 by omega)] at hg ⊢
    rcases hg with hg | hg
    · by_cases hx : x = endOf r a
      · subst hx
        obtain ⟨t, ht, rfl⟩ := go_cases h2 g
        cases ht
      · exact .inl (good_step n w r a fl x p y h1 hs.1 hfl hg hx g)
    · exact .inr (goodR_step l _ fl x p y h3 hs.2 hfl hg g)
theorem goodR_end {w : List Int} : ∀ (l : List Rx) (a : Nat) (fl : List Bool) (s p i : Nat), (endsP l a)[i]? = some s → GoodL w 3 l a fl s p → ∃ r, l[i]? = some r ∧ at' (endsR w r fl) p
  | [], a, fl, s, p, i, h, _ => by simp [endsP] at h
  | r :: l, a, fl, s, p, i, h, hg => by
    have hp := sizeR_pos r
    simp only [GoodL, if_neg (show ¬ (3 : Int) = 2 by omega)] at hg
    simp only [endsP] at h
    cases i with
    | zero =>
      have hs : endOf r a = s := by simpa using h
      rcases hg with hg | hg
      · rw [← hs] at hg
        exact ⟨r, rfl, good_end w r a hg⟩
      · have := goodL_rng w 3 l _ fl s p hg
        simp only [endOf] at hs; omega
    | succ i =>
      have h' : (endsP l (a + 2 * sizeR r))[i]? = some s := by simpa using h
      rcases hg with hg | hg
      · have h3 := endsP_rng l _ s (List.mem_of_getElem? h')
        have h4 := good_rng w r a fl s p hg
        simp only [endOf] at h4; omega
      · obtain ⟨r', k1, k2⟩ := goodR_end l _ fl s p i h' hg
        exact ⟨r', by simpa using k1, k2⟩
theorem frag_at {n : Nfa} : ∀ (l : List Rx) (a : Nat) (i : Nat) (r : Rx), FragR n l a → l[i]? = some r → ∃ x, x ∈ starts l a ∧ Frag n r x ∧ (endsP l a)[i]? = some (endOf r x)
  | [], a, i, r, _, h => by simp at h
  | z :: l, a, i, r, hf, h => by
    obtain ⟨h1, h2, h3⟩ := hf
    cases i with
    | zero =>
      have : z = r := by simpa using h
      subst this
      exact ⟨a, by simp [starts], h1, by simp [endsP]⟩
    | succ i =>
      obtain ⟨x, g1, g2, g3⟩ := frag_at l _ i r h3 (by simpa using h)
      exact ⟨x, by simp [starts, g1], g2, by simpa [endsP] using g3⟩
theorem has_at {w : List Int} {r : Rx} : hasR w r = true ↔ at' (endsR w r (startB w.length)) w.length := Iff.rfl
theorem start_at {m p : Nat} : at' (startB m) p ↔ p = 0 := by
  unfold at' startB
  cases p with
  | zero => simp
  | succ p =>
    simp only [List.getD_eq_getElem?_getD, List.getElem?_cons_succ, List.getElem?_replicate]
    split <;> simp
/-- a word leads to an expression's end just if the expression has it -/
theorem leads {n : Nfa} {l : List Rx} (h : Pre n l) (hr : ∀ r ∈ l, rightR r = true) (w : List Int) {i s : Nat} {r : Rx} (hi : l[i]? = some r) (hs : (endsP l 1)[i]? = some s) : (s : Int) ∈ atN n w ↔ hasR w r = true := by
  have hsl : shapesL l = true := by rw [shapesL_eq, List.all_eq_true]; exact fun x hx => (sizes hr x hx).2
  have hw : w.take w.length = w := List.take_length
  constructor
  · intro hm
    rw [← hw] at hm
    have hp := path_at (n := n) w w.length s (Nat.le_refl _) hm
    have key : ∀ x y, Path n w x y → x = (0, 0) → y = (0, 0) ∨ GoodL w 3 l 1 (startB w.length) y.1 y.2 := by
      intro x y hp
      induction hp with
      | refl => exact fun e => .inl e
      | step _ g ih =>
        intro e
        rcases ih e with rfl | hg
        · obtain ⟨t, ht, rfl⟩ := go_cases h.s0 g
          exact .inr (good_starts w 3 (by omega) l 1 ht (start_at.2 rfl))
        · exact .inr (goodR_step l 1 _ _ _ _ h.fr hsl (start_len _) hg g)
    rcases key _ _ hp rfl with e | hg
    · have := endsP_rng l 1 s (List.mem_of_getElem? hs)
      have : s = 0 := congrArg Prod.fst e
      omega
    · obtain ⟨r', k1, k2⟩ := goodR_end l 1 _ s w.length i hs hg
      rw [hi] at k1; cases k1
      exact has_at.2 k2
  · intro hh
    obtain ⟨x, g1, g2, g3⟩ := frag_at l 1 i r h.fr hi
    rw [hs] at g3
    cases g3
    obtain ⟨i0, k1, k2⟩ := sound n w r x _ _ g2 (sizes hr r (List.mem_of_getElem? hi)).2 (start_len _) (has_at.1 hh)
    rw [start_at] at k1
    subst k1
    have hp : Path n w (0, 0) (endOf r x, w.length) := (Path.one (go_free h.s0 g1)).trans k2
    have := at_path h.ok (by rw [h.k]; omega) w _ _ hp rfl
    have h3 := this.2.2
    simp only [hw] at h3
    exact h3
def firstZ (w : List Int) : List Rx → Nat → Int
  | [], _ => -1
  | r :: l, i => if hasR w r then (i : Int) else firstZ w l (i + 1)
theorem firstZ_spec (w : List Int) : ∀ (l : List Rx) (i0 : Nat), (firstZ w l i0 = -1 ∧ ∀ r ∈ l, hasR w r = false) ∨ ∃ i r, l[i]? = some r ∧ hasR w r = true ∧ firstZ w l i0 = ((i0 + i : Nat) : Int) ∧ ∀ i' r', i' < i → l[i']? = some r' → hasR w r' = false
  | [], i0 => .inl ⟨rfl, by simp⟩
  | r :: l, i0 => by
    simp only [firstZ]
    cases hh : hasR w r with
    | true => exact .inr ⟨0, r, rfl, hh, by simp, fun i' r' h => by omega⟩
    | false =>
      simp only [Bool.false_eq_true, if_false]
      rcases firstZ_spec w l (i0 + 1) with ⟨h1, h2⟩ | ⟨i, r', h1, h2, h3, h4⟩
      · refine .inl ⟨h1, fun x hx => ?_⟩
        rcases List.mem_cons.1 hx with rfl | hx
        · exact hh
        · exact h2 x hx
      · refine .inr ⟨i + 1, r', by simpa using h1, h2, by rw [h3]; congr 1; omega, fun i' x hi' hx => ?_⟩
        cases i' with
        | zero => have : r = x := by simpa using hx
                  subst this; exact hh
        | succ i' => exact h4 i' x (by omega) (by simpa using hx)
theorem match_first {n : Nfa} {l : List Rx} (h : Pre n l) (hr : ∀ r ∈ l, rightR r = true) (hn : rightN n = true) (w : List Int) : matchN n w = firstZ w l 0 := by
  unfold matchN
  rw [if_pos hn]
  have hlR : n.rule.length = n.set.length := h.ok.lR
  have hmem : ∀ x, x ∈ (atN n w).map (fun s => n.rule.getD s.toNat 0) → 0 ≤ x → ∃ (i : Nat) (r : Rx), l[i]? = some r ∧ x = (i : Int) ∧ hasR w r = true := by
    intro x hx h0
    obtain ⟨s, hs, rfl⟩ := List.mem_map.1 hx
    obtain ⟨L, hL⟩ := atN_clos n w
    have hs' := hs
    rw [hL] at hs'
    have hrng := clos_in hs'
    have e : n.rule.getD s.toNat 0 = n.rule.getD s.toNat (-1) := getD_def (by omega)
    rw [e] at h0 ⊢
    obtain ⟨i, hi⟩ : ∃ i : Nat, n.rule.getD s.toNat (-1) = (i : Int) := ⟨(n.rule.getD s.toNat (-1)).toNat, by omega⟩
    have he := (h.ru _ _).1 hi
    have hil : i < l.length := by
      rcases Nat.lt_or_ge i l.length with h' | h'
      · exact h'
      · rw [List.getElem?_eq_none (by rw [endsP_len]; omega)] at he; cases he
    refine ⟨i, l[i], List.getElem?_eq_getElem hil, hi, (leads h hr w (List.getElem?_eq_getElem hil) he).1 ?_⟩
    rw [show ((s.toNat : Nat) : Int) = s by omega]; exact hs
  have hin : ∀ (i : Nat) (r : Rx), l[i]? = some r → hasR w r = true → (i : Int) ∈ (atN n w).map (fun s => n.rule.getD s.toNat 0) := by
    intro i r hi hh
    have hil : i < l.length := by
      rcases Nat.lt_or_ge i l.length with h' | h'
      · exact h'
      · rw [List.getElem?_eq_none h'] at hi; cases hi
    obtain ⟨s, hs⟩ : ∃ s, (endsP l 1)[i]? = some s := ⟨_, List.getElem?_eq_getElem (by rw [endsP_len]; exact hil)⟩
    have hm := (leads h hr w hi hs).2 hh
    refine List.mem_map.2 ⟨(s : Int), hm, ?_⟩
    have hru := (h.ru s i).2 hs
    have hsl := endsP_rng l 1 s (List.mem_of_getElem? hs)
    have hk := h.k
    simp only [kN] at hk
    rw [Int.toNat_natCast, getD_def (e := (-1 : Int)) (by omega)]; exact hru
  refine best_eq ?_
  rcases firstZ_spec w l 0 with ⟨h1, h2⟩ | ⟨i, r, h1, h2, h3, h4⟩
  · rw [h1]
    refine .inl ⟨rfl, fun x hx => ?_⟩
    by_cases h0 : 0 ≤ x
    · obtain ⟨i, r, g1, g2, g3⟩ := hmem x hx h0
      rw [h2 r (List.mem_of_getElem? g1)] at g3; cases g3
    · omega
  · rw [h3, Nat.zero_add]
    refine .inr ⟨by omega, hin i r h1 h2, fun x hx h0 => ?_⟩
    obtain ⟨i', r', g1, g2, g3⟩ := hmem x hx h0
    rw [g2]
    rcases Nat.lt_or_ge i' i with h' | h'
    · rw [h4 i' r' h' g1] at g3; cases g3
    · omega
end Go.Proofs.W
end
/- The law on matches of machines. -/
section
set_option maxHeartbeats 4000000
set_option linter.unusedVariables false
set_option linter.unusedSimpArgs false
namespace Go.Proofs.W
open Go Vm Go.Proofs.Zs06

theorem matches_law (l : List Rx) (hok : greatE l = false → ∀ r ∈ l, okR r) (w : List Int) : Yes 5 [rxsD l, isD w] := by
  have ew : isD w = .sl false (w.map (.int .i64)) := rfl
  refine evF_inB (n := 44) (rs := [.tmp 4]) Try.func5 rfl rfl rfl rfl rfl rfl ?_
  repeat' (first | refine wpB_seq ?_ | refine wpB_regionL rfl ?_ | refine wpB_block ?_ | refine wpB_skip ?_ | refine wpB_exit ?_ | refine wpB_ret ?_ | simp (maxSteps := 1000000) (dsimp := false) (disch := omega) only [go_sem, simprocAttr, *] | ((first | refine stepsB_both (fun hh => ?_) (fun hh => ?_) | refine stepsXB_both (fun hh => ?_) (fun hh => ?_)) <;> (try simp (maxSteps := 1000000) (dsimp := false) (disch := omega) only [go_sem, simprocAttr, decide_eq_true_eq, decide_eq_false_iff_not, Bool.not_eq_true, Bool.not_eq_false, Bool.not_eq_true', Bool.not_eq_false', Int.not_lt, Int.not_le, bne_iff_ne, bne_eq_false_iff_eq, beq_iff_eq, beq_eq_false_iff_ne, ne_eq, Int.ofNat_inj, Int.natCast_inj] at hh) <;> (try (exfalso; omega))) | (refine wpB_cond (by simp (maxSteps := 1000000) (dsimp := false) (disch := omega) only [go_sem, simprocAttr, *]; exact rfl) (fun hh => ?_) (fun hh => ?_) <;> (try simp (maxSteps := 1000000) (dsimp := false) (disch := omega) only [go_sem, simprocAttr, decide_eq_true_eq, decide_eq_false_iff_not, Bool.not_eq_true, Bool.not_eq_false, Bool.not_eq_true', Bool.not_eq_false', Int.not_lt, Int.not_le, bne_iff_ne, bne_eq_false_iff_eq, beq_iff_eq, beq_eq_false_iff_ne, ne_eq, Int.ofNat_inj, Int.natCast_inj] at hh) <;> (try (exfalso; omega))))
  refine evB_plain bo7 rfl rfl rfl alive_ok ?_
  repeat' (first | refine wpB_seq ?_ | refine wpB_regionL rfl ?_ | refine wpB_block ?_ | refine wpB_skip ?_ | refine wpB_exit ?_ | refine wpB_ret ?_ | simp (maxSteps := 1000000) (dsimp := false) (disch := omega) only [go_sem, simprocAttr, *] | ((first | refine stepsB_both (fun hh => ?_) (fun hh => ?_) | refine stepsXB_both (fun hh => ?_) (fun hh => ?_)) <;> (try simp (maxSteps := 1000000) (dsimp := false) (disch := omega) only [go_sem, simprocAttr, decide_eq_true_eq, decide_eq_false_iff_not, Bool.not_eq_true, Bool.not_eq_false, Bool.not_eq_true', Bool.not_eq_false', Int.not_lt, Int.not_le, bne_iff_ne, bne_eq_false_iff_eq, beq_iff_eq, beq_eq_false_iff_ne, ne_eq, Int.ofNat_inj, Int.natCast_inj] at hh) <;> (try (exfalso; omega))) | (refine wpB_cond (by simp (maxSteps := 1000000) (dsimp := false) (disch := omega) only [go_sem, simprocAttr, *]; exact rfl) (fun hh => ?_) (fun hh => ?_) <;> (try simp (maxSteps := 1000000) (dsimp := false) (disch := omega) only [go_sem, simprocAttr, decide_eq_true_eq, decide_eq_false_iff_not, Bool.not_eq_true, Bool.not_eq_false, Bool.not_eq_true', Bool.not_eq_false', Int.not_lt, Int.not_le, bne_iff_ne, bne_eq_false_iff_eq, beq_iff_eq, beq_eq_false_iff_ne, ne_eq, Int.ofNat_inj, Int.natCast_inj] at hh) <;> (try (exfalso; omega))))
  refine evB_plain bo8 rfl rfl (strip_rxsD l) (greatE_ok l) ?_
  cases hg : greatE l with
  | true => repeat' (first | refine wpB_seq ?_ | refine wpB_regionL rfl ?_ | refine wpB_block ?_ | refine wpB_skip ?_ | refine wpB_exit ?_ | refine wpB_ret ?_ | simp (maxSteps := 1000000) (dsimp := false) (disch := omega) only [go_sem, simprocAttr, *] | ((first | refine stepsB_both (fun hh => ?_) (fun hh => ?_) | refine stepsXB_both (fun hh => ?_) (fun hh => ?_)) <;> (try simp (maxSteps := 1000000) (dsimp := false) (disch := omega) only [go_sem, simprocAttr, decide_eq_true_eq, decide_eq_false_iff_not, Bool.not_eq_true, Bool.not_eq_false, Bool.not_eq_true', Bool.not_eq_false', Int.not_lt, Int.not_le, bne_iff_ne, bne_eq_false_iff_eq, beq_iff_eq, beq_eq_false_iff_ne, ne_eq, Int.ofNat_inj, Int.natCast_inj] at hh) <;> (try (exfalso; omega))) | (refine wpB_cond (by simp (maxSteps := 1000000) (dsimp := false) (disch := omega) only [go_sem, simprocAttr, *]; exact rfl) (fun hh => ?_) (fun hh => ?_) <;> (try simp (maxSteps := 1000000) (dsimp := false) (disch := omega) only [go_sem, simprocAttr, decide_eq_true_eq, decide_eq_false_iff_not, Bool.not_eq_true, Bool.not_eq_false, Bool.not_eq_true', Bool.not_eq_false', Int.not_lt, Int.not_le, bne_iff_ne, bne_eq_false_iff_eq, beq_iff_eq, beq_eq_false_iff_ne, ne_eq, Int.ofNat_inj, Int.natCast_inj] at hh) <;> (try (exfalso; omega))))
  | false =>
    have hr := hok hg
    have hl20 : l.length ≤ 20 := by simp only [greatE, Bool.or_eq_false_iff, decide_eq_false_iff_not] at hg; omega
    have hB := build_ok l hr (by omega)
    clear hok hg
    repeat' (first | refine wpB_seq ?_ | refine wpB_regionL rfl ?_ | refine wpB_block ?_ | refine wpB_skip ?_ | refine wpB_exit ?_ | refine wpB_ret ?_ | simp (maxSteps := 1000000) (dsimp := false) (disch := omega) only [go_sem, simprocAttr, *] | ((first | refine stepsB_both (fun hh => ?_) (fun hh => ?_) | refine stepsXB_both (fun hh => ?_) (fun hh => ?_)) <;> (try simp (maxSteps := 1000000) (dsimp := false) (disch := omega) only [go_sem, simprocAttr, decide_eq_true_eq, decide_eq_false_iff_not, Bool.not_eq_true, Bool.not_eq_false, Bool.not_eq_true', Bool.not_eq_false', Int.not_lt, Int.not_le, bne_iff_ne, bne_eq_false_iff_eq, beq_iff_eq, beq_eq_false_iff_ne, ne_eq, Int.ofNat_inj, Int.natCast_inj] at hh) <;> (try (exfalso; omega))) | (refine wpB_cond (by simp (maxSteps := 1000000) (dsimp := false) (disch := omega) only [go_sem, simprocAttr, *]; exact rfl) (fun hh => ?_) (fun hh => ?_) <;> (try simp (maxSteps := 1000000) (dsimp := false) (disch := omega) only [go_sem, simprocAttr, decide_eq_true_eq, decide_eq_false_iff_not, Bool.not_eq_true, Bool.not_eq_false, Bool.not_eq_true', Bool.not_eq_false', Int.not_lt, Int.not_le, bne_iff_ne, bne_eq_false_iff_eq, beq_iff_eq, beq_eq_false_iff_ne, ne_eq, Int.ofNat_inj, Int.natCast_inj] at hh) <;> (try (exfalso; omega))))
    refine evB_plain bo9 rfl rfl (strip_rxsD l) hB ?_
    cases hb : buildN l with
    | none =>
      have a1 := nfa_noTup emptyN
      have a2 : (nfaD emptyN).cells = [.sl false (emptyN.free.map isD), .sl false (emptyN.set.map (.int .u16)), isD emptyN.to, isD emptyN.rule] := rfl
      have a3 := nfa_aggQ emptyN
      repeat' (first | refine wpB_seq ?_ | refine wpB_regionL rfl ?_ | refine wpB_block ?_ | refine wpB_skip ?_ | refine wpB_exit ?_ | refine wpB_ret ?_ | simp (maxSteps := 1000000) (dsimp := false) (disch := omega) only [go_sem, simprocAttr, *, builtD, zrN6] | ((first | refine stepsB_both (fun hh => ?_) (fun hh => ?_) | refine stepsXB_both (fun hh => ?_) (fun hh => ?_)) <;> (try simp (maxSteps := 1000000) (dsimp := false) (disch := omega) only [go_sem, simprocAttr, decide_eq_true_eq, decide_eq_false_iff_not, Bool.not_eq_true, Bool.not_eq_false, Bool.not_eq_true', Bool.not_eq_false', Int.not_lt, Int.not_le, bne_iff_ne, bne_eq_false_iff_eq, beq_iff_eq, beq_eq_false_iff_ne, ne_eq, Int.ofNat_inj, Int.natCast_inj] at hh) <;> (try (exfalso; omega))) | (refine wpB_cond (by simp (maxSteps := 1000000) (dsimp := false) (disch := omega) only [go_sem, simprocAttr, *, builtD, zrN6]; exact rfl) (fun hh => ?_) (fun hh => ?_) <;> (try simp (maxSteps := 1000000) (dsimp := false) (disch := omega) only [go_sem, simprocAttr, decide_eq_true_eq, decide_eq_false_iff_not, Bool.not_eq_true, Bool.not_eq_false, Bool.not_eq_true', Bool.not_eq_false', Int.not_lt, Int.not_le, bne_iff_ne, bne_eq_false_iff_eq, beq_iff_eq, beq_eq_false_iff_ne, ne_eq, Int.ofNat_inj, Int.natCast_inj] at hh) <;> (try (exfalso; omega))))
    | some n =>
      obtain ⟨g1, g2, g3, g4⟩ := build_right hb
      obtain ⟨hp, hrt⟩ := buildN_pre hb
      have a1 := nfa_noTup n
      have a2 : (nfaD n).cells = [.sl false (n.free.map isD), .sl false (n.set.map (.int .u16)), isD n.to, isD n.rule] := rfl
      have a3 := nfa_aggQ n
      have hM := match_ok n w g2 (by omega)
      rw [match_first hp hrt g3] at hM
      repeat' (first | refine wpB_seq ?_ | refine wpB_regionL rfl ?_ | refine wpB_block ?_ | refine wpB_skip ?_ | refine wpB_exit ?_ | refine wpB_ret ?_ | simp (maxSteps := 1000000) (dsimp := false) (disch := omega) only [go_sem, simprocAttr, *, builtD, zrN6, rxsD] | ((first | refine stepsB_both (fun hh => ?_) (fun hh => ?_) | refine stepsXB_both (fun hh => ?_) (fun hh => ?_)) <;> (try simp (maxSteps := 1000000) (dsimp := false) (disch := omega) only [go_sem, simprocAttr, decide_eq_true_eq, decide_eq_false_iff_not, Bool.not_eq_true, Bool.not_eq_false, Bool.not_eq_true', Bool.not_eq_false', Int.not_lt, Int.not_le, bne_iff_ne, bne_eq_false_iff_eq, beq_iff_eq, beq_eq_false_iff_ne, ne_eq, Int.ofNat_inj, Int.natCast_inj] at hh) <;> (try (exfalso; omega))) | (refine wpB_cond (by simp (maxSteps := 1000000) (dsimp := false) (disch := omega) only [go_sem, simprocAttr, *, builtD, zrN6, rxsD]; exact rfl) (fun hh => ?_) (fun hh => ?_) <;> (try simp (maxSteps := 1000000) (dsimp := false) (disch := omega) only [go_sem, simprocAttr, decide_eq_true_eq, decide_eq_false_iff_not, Bool.not_eq_true, Bool.not_eq_false, Bool.not_eq_true', Bool.not_eq_false', Int.not_lt, Int.not_le, bne_iff_ne, bne_eq_false_iff_eq, beq_iff_eq, beq_eq_false_iff_ne, ne_eq, Int.ofNat_inj, Int.natCast_inj] at hh) <;> (try (exfalso; omega))))
      refine wpB_loop (fun e H => ∃ j : Nat, j ≤ l.length ∧ H = [Ob.arr [nfaD n]] ∧ e 0 = rxsD l ∧ e 1 = isD w ∧ e 5 = .ptr 0 0 0 ∧ e 7 = .int .i64 (firstZ w (l.drop j) j) ∧ e 8 = .int .i64 ((j : Int) - 1)) (fun e H => (natOf (match e 8 with | .int k x => .int k (x + 1) | d => d))) ?_ ?_
      · exact ⟨l.length, by omega, by simp (maxSteps := 1000000) (dsimp := false) (disch := omega) only [go_sem, simprocAttr, *], by simp (maxSteps := 1000000) (dsimp := false) (disch := omega) only [go_sem, simprocAttr, *, rxsD], by simp (maxSteps := 1000000) (dsimp := false) (disch := omega) only [go_sem, simprocAttr, *], by simp (maxSteps := 1000000) (dsimp := false) (disch := omega) only [go_sem, simprocAttr, *], by rw [List.drop_eq_nil_of_le (by omega)]; simp (maxSteps := 1000000) (dsimp := false) (disch := omega) only [go_sem, simprocAttr, *, firstZ], by simp (maxSteps := 1000000) (dsimp := false) (disch := omega) only [go_sem, simprocAttr, *]⟩
      rintro e H ⟨j, hj, rfl, e0, e1, e5, e7, e8⟩ R hR
      cases j with
      | zero =>
        rw [List.drop_zero] at e7
        repeat' (first | refine wpB_seq ?_ | refine wpB_regionL rfl ?_ | refine wpB_block ?_ | refine wpB_skip ?_ | refine wpB_exit ?_ | refine wpB_ret ?_ | simp (maxSteps := 1000000) (dsimp := false) (disch := omega) only [go_sem, simprocAttr, *] | ((first | refine stepsB_both (fun hh => ?_) (fun hh => ?_) | refine stepsXB_both (fun hh => ?_) (fun hh => ?_)) <;> (try simp (maxSteps := 1000000) (dsimp := false) (disch := omega) only [go_sem, simprocAttr, decide_eq_true_eq, decide_eq_false_iff_not, Bool.not_eq_true, Bool.not_eq_false, Bool.not_eq_true', Bool.not_eq_false', Int.not_lt, Int.not_le, bne_iff_ne, bne_eq_false_iff_eq, beq_iff_eq, beq_eq_false_iff_ne, ne_eq, Int.ofNat_inj, Int.natCast_inj] at hh) <;> (try (exfalso; omega))) | (refine wpB_cond (by simp (maxSteps := 1000000) (dsimp := false) (disch := omega) only [go_sem, simprocAttr, *]; exact rfl) (fun hh => ?_) (fun hh => ?_) <;> (try simp (maxSteps := 1000000) (dsimp := false) (disch := omega) only [go_sem, simprocAttr, decide_eq_true_eq, decide_eq_false_iff_not, Bool.not_eq_true, Bool.not_eq_false, Bool.not_eq_true', Bool.not_eq_false', Int.not_lt, Int.not_le, bne_iff_ne, bne_eq_false_iff_eq, beq_iff_eq, beq_eq_false_iff_ne, ne_eq, Int.ofNat_inj, Int.natCast_inj] at hh) <;> (try (exfalso; omega))))
        refine evB_plain bo17 rfl rfl (stripNI n w) hM ?_
        repeat' (first | refine wpB_seq ?_ | refine wpB_regionL rfl ?_ | refine wpB_block ?_ | refine wpB_skip ?_ | refine wpB_exit ?_ | refine wpB_ret ?_ | simp (maxSteps := 1000000) (dsimp := false) (disch := omega) only [go_sem, simprocAttr, *] | ((first | refine stepsB_both (fun hh => ?_) (fun hh => ?_) | refine stepsXB_both (fun hh => ?_) (fun hh => ?_)) <;> (try simp (maxSteps := 1000000) (dsimp := false) (disch := omega) only [go_sem, simprocAttr, decide_eq_true_eq, decide_eq_false_iff_not, Bool.not_eq_true, Bool.not_eq_false, Bool.not_eq_true', Bool.not_eq_false', Int.not_lt, Int.not_le, bne_iff_ne, bne_eq_false_iff_eq, beq_iff_eq, beq_eq_false_iff_ne, ne_eq, Int.ofNat_inj, Int.natCast_inj] at hh) <;> (try (exfalso; omega))) | (refine wpB_cond (by simp (maxSteps := 1000000) (dsimp := false) (disch := omega) only [go_sem, simprocAttr, *]; exact rfl) (fun hh => ?_) (fun hh => ?_) <;> (try simp (maxSteps := 1000000) (dsimp := false) (disch := omega) only [go_sem, simprocAttr, decide_eq_true_eq, decide_eq_false_iff_not, Bool.not_eq_true, Bool.not_eq_false, Bool.not_eq_true', Bool.not_eq_false', Int.not_lt, Int.not_le, bne_iff_ne, bne_eq_false_iff_eq, beq_iff_eq, beq_eq_false_iff_ne, ne_eq, Int.ofNat_inj, Int.natCast_inj] at hh) <;> (try (exfalso; omega))))
      | succ j =>
        have hb1 : j < l.length := by omega
        have e8' : e 8 = .int .i64 (j : Int) := by rw [e8]; congr 1; omega
        have hx : (rxDs l)[j]? = some (rxD l[j]) := by rw [rxDs_at, List.getElem?_eq_getElem hb1]; rfl
        have q1 := rx_cells l[j]
        have q2 := rx_aggQ l[j]
        have q3 := rx_noTup l[j]
        have hH := hasP_ok w (by omega) l[j] (hr _ (List.getElem_mem hb1)) (sizes hrt _ (List.getElem_mem hb1)).2
        have hst := strip2 (strip_rx l[j]) (strip_is w)
        have hfirst : firstZ w (l.drop j) j = if hasR w l[j] then (j : Int) else firstZ w (l.drop (j + 1)) (j + 1) := by
          rw [List.drop_eq_getElem_cons hb1, firstZ]
        clear e8
        generalize rxD l[j] = dk at *
        repeat' (first | refine wpB_seq ?_ | refine wpB_regionL rfl ?_ | refine wpB_block ?_ | refine wpB_skip ?_ | refine wpB_exit ?_ | refine wpB_ret ?_ | simp (maxSteps := 1000000) (dsimp := false) (disch := omega) only [go_sem, simprocAttr, *, rxsD] | ((first | refine stepsB_both (fun hh => ?_) (fun hh => ?_) | refine stepsXB_both (fun hh => ?_) (fun hh => ?_)) <;> (try simp (maxSteps := 1000000) (dsimp := false) (disch := omega) only [go_sem, simprocAttr, decide_eq_true_eq, decide_eq_false_iff_not, Bool.not_eq_true, Bool.not_eq_false, Bool.not_eq_true', Bool.not_eq_false', Int.not_lt, Int.not_le, bne_iff_ne, bne_eq_false_iff_eq, beq_iff_eq, beq_eq_false_iff_ne, ne_eq, Int.ofNat_inj, Int.natCast_inj] at hh) <;> (try (exfalso; omega))) | (refine wpB_cond (by simp (maxSteps := 1000000) (dsimp := false) (disch := omega) only [go_sem, simprocAttr, *, rxsD]; exact rfl) (fun hh => ?_) (fun hh => ?_) <;> (try simp (maxSteps := 1000000) (dsimp := false) (disch := omega) only [go_sem, simprocAttr, decide_eq_true_eq, decide_eq_false_iff_not, Bool.not_eq_true, Bool.not_eq_false, Bool.not_eq_true', Bool.not_eq_false', Int.not_lt, Int.not_le, bne_iff_ne, bne_eq_false_iff_eq, beq_iff_eq, beq_eq_false_iff_ne, ne_eq, Int.ofNat_inj, Int.natCast_inj] at hh) <;> (try (exfalso; omega))))
        refine evB_plain bo23 rfl rfl hst hH ?_
        cases hh : hasR w l[j] with
        | true =>
          rw [hh] at hfirst
          simp only [if_true] at hfirst
          repeat' (first | refine wpB_seq ?_ | refine wpB_regionL rfl ?_ | refine wpB_block ?_ | refine wpB_skip ?_ | refine wpB_exit ?_ | refine wpB_ret ?_ | simp (maxSteps := 1000000) (dsimp := false) (disch := omega) only [go_sem, simprocAttr, *] | ((first | refine stepsB_both (fun hh => ?_) (fun hh => ?_) | refine stepsXB_both (fun hh => ?_) (fun hh => ?_)) <;> (try simp (maxSteps := 1000000) (dsimp := false) (disch := omega) only [go_sem, simprocAttr, decide_eq_true_eq, decide_eq_false_iff_not, Bool.not_eq_true, Bool.not_eq_false, Bool.not_eq_true', Bool.not_eq_false', Int.not_lt, Int.not_le, bne_iff_ne, bne_eq_false_iff_eq, beq_iff_eq, beq_eq_false_iff_ne, ne_eq, Int.ofNat_inj, Int.natCast_inj] at hh) <;> (try (exfalso; omega))) | (refine wpB_cond (by simp (maxSteps := 1000000) (dsimp := false) (disch := omega) only [go_sem, simprocAttr, *]; exact rfl) (fun hh => ?_) (fun hh => ?_) <;> (try simp (maxSteps := 1000000) (dsimp := false) (disch := omega) only [go_sem, simprocAttr, decide_eq_true_eq, decide_eq_false_iff_not, Bool.not_eq_true, Bool.not_eq_false, Bool.not_eq_true', Bool.not_eq_false', Int.not_lt, Int.not_le, bne_iff_ne, bne_eq_false_iff_eq, beq_iff_eq, beq_eq_false_iff_ne, ne_eq, Int.ofNat_inj, Int.natCast_inj] at hh) <;> (try (exfalso; omega))))
          refine hR _ _ ⟨j, by omega, by simp (maxSteps := 1000000) (dsimp := false) (disch := omega) only [go_sem, simprocAttr, *], by simp (maxSteps := 1000000) (dsimp := false) (disch := omega) only [go_sem, simprocAttr, *, rxsD], by simp (maxSteps := 1000000) (dsimp := false) (disch := omega) only [go_sem, simprocAttr, *], by simp (maxSteps := 1000000) (dsimp := false) (disch := omega) only [go_sem, simprocAttr, *], by simp (maxSteps := 1000000) (dsimp := false) (disch := omega) only [go_sem, simprocAttr, *], by simp (maxSteps := 1000000) (dsimp := false) (disch := omega) only [go_sem, simprocAttr, *]⟩ ?_
          simp (maxSteps := 1000000) (dsimp := false) (disch := omega) only [go_sem, simprocAttr, *, natOf_int]
        | false =>
          rw [hh] at hfirst
          simp only [Bool.false_eq_true, if_false] at hfirst
          repeat' (first | refine wpB_seq ?_ | refine wpB_regionL rfl ?_ | refine wpB_block ?_ | refine wpB_skip ?_ | refine wpB_exit ?_ | refine wpB_ret ?_ | simp (maxSteps := 1000000) (dsimp := false) (disch := omega) only [go_sem, simprocAttr, *] | ((first | refine stepsB_both (fun hh => ?_) (fun hh => ?_) | refine stepsXB_both (fun hh => ?_) (fun hh => ?_)) <;> (try simp (maxSteps := 1000000) (dsimp := false) (disch := omega) only [go_sem, simprocAttr, decide_eq_true_eq, decide_eq_false_iff_not, Bool.not_eq_true, Bool.not_eq_false, Bool.not_eq_true', Bool.not_eq_false', Int.not_lt, Int.not_le, bne_iff_ne, bne_eq_false_iff_eq, beq_iff_eq, beq_eq_false_iff_ne, ne_eq, Int.ofNat_inj, Int.natCast_inj] at hh) <;> (try (exfalso; omega))) | (refine wpB_cond (by simp (maxSteps := 1000000) (dsimp := false) (disch := omega) only [go_sem, simprocAttr, *]; exact rfl) (fun hh => ?_) (fun hh => ?_) <;> (try simp (maxSteps := 1000000) (dsimp := false) (disch := omega) only [go_sem, simprocAttr, decide_eq_true_eq, decide_eq_false_iff_not, Bool.not_eq_true, Bool.not_eq_false, Bool.not_eq_true', Bool.not_eq_false', Int.not_lt, Int.not_le, bne_iff_ne, bne_eq_false_iff_eq, beq_iff_eq, beq_eq_false_iff_ne, ne_eq, Int.ofNat_inj, Int.natCast_inj] at hh) <;> (try (exfalso; omega))))
          refine hR _ _ ⟨j, by omega, by simp (maxSteps := 1000000) (dsimp := false) (disch := omega) only [go_sem, simprocAttr, *], by simp (maxSteps := 1000000) (dsimp := false) (disch := omega) only [go_sem, simprocAttr, *, rxsD], by simp (maxSteps := 1000000) (dsimp := false) (disch := omega) only [go_sem, simprocAttr, *], by simp (maxSteps := 1000000) (dsimp := false) (disch := omega) only [go_sem, simprocAttr, *], by simp (maxSteps := 1000000) (dsimp := false) (disch := omega) only [go_sem, simprocAttr, *], by simp (maxSteps := 1000000) (dsimp := false) (disch := omega) only [go_sem, simprocAttr, *]⟩ ?_
          simp (maxSteps := 1000000) (dsimp := false) (disch := omega) only [go_sem, simprocAttr, *, natOf_int]
end Go.Proofs.W
end
/- From a law's runs to the row that lists variables. -/
section
set_option linter.unusedVariables false
namespace Vm
open Go
section
variable {P : Program}
theorem typed_str {t : TypeId} {ds : List D} (hu : P.underlying t = some .string) (h : Typed P t ds) : ∃ s, ds = [.str s] ∧ s.length ≤ maxLen := by
  cases h with
  | bool _ b h => rw [hu] at h; cases h
  | int _ k1 n h hn => rw [hu] at h; cases h
  | str _ s h hs => exact ⟨s, rfl, hs⟩
  | slice _ e xs h hl hx => rw [hu] at h; cases h
  | struct _ fs ds h hf => rw [hu] at h; cases h
  | array _ e n ds h hf => rw [hu] at h; cases h
theorem typed_bool {t : TypeId} {ds : List D} (hu : P.underlying t = some .bool) (h : Typed P t ds) : ∃ b, ds = [.bool b] := by
  cases h with
  | bool _ b h => exact ⟨b, rfl⟩
  | int _ k1 n h hn => rw [hu] at h; cases h
  | str _ s h hs => rw [hu] at h; cases h
  | slice _ e xs h hl hx => rw [hu] at h; cases h
  | struct _ fs ds h hf => rw [hu] at h; cases h
  | array _ e n ds h hf => rw [hu] at h; cases h
theorem typedF_cons {t : TypeId} {ts : List TypeId} {ds : List D} (h : TypedF P (t :: ts) ds) : ∃ a b, ds = a ++ b ∧ Typed P t a ∧ TypedF P ts b := by
  cases h with
  | cons _ _ a b h hr => exact ⟨a, b, rfl, h, hr⟩
theorem typedE_one {e : TypeId} {xs : List D} (ha : aggT P e = false) (h : TypedE P e xs) {α : Type} (f : α → D) (hf : ∀ x, Typed P e [x] → ∃ a, x = f a) : ∃ l : List α, xs = l.map f := by
  induction xs with
  | nil => exact ⟨[], rfl⟩
  | cons x xs ih =>
    cases h with
    | agg _ cs _ ha' h hr => rw [ha] at ha'; cases ha'
    | one _ _ _ ha' h hr =>
      obtain ⟨l, hl⟩ := ih hr
      obtain ⟨a, hb⟩ := hf x h
      exact ⟨a :: l, by rw [List.map_cons, ← hl, hb]⟩
/-- as 'typedE_agg', for what lies within: each element is less than the list -/
theorem typedE_aggI {e : TypeId} {xs : List D} (ha : aggT P e = true) (h : TypedE P e xs) {α : Type} (f : α → D) (q : α → Prop) (hf : ∀ cs, SizeOf.sizeOf cs < SizeOf.sizeOf xs → Typed P e cs → ∃ a, D.agg cs = f a ∧ q a) : ∃ l : List α, xs = l.map f ∧ ∀ a ∈ l, q a := by
  induction xs with
  | nil => exact ⟨[], rfl, by simp⟩
  | cons x xs ih =>
    cases h with
    | agg _ cs _ ha' h hr =>
      obtain ⟨l, hl, hq⟩ := ih hr (fun cs hc => hf cs (by simp only [List.cons.sizeOf_spec]; omega))
      obtain ⟨a, hb, hqa⟩ := hf cs (by simp only [List.cons.sizeOf_spec, D.agg.sizeOf_spec]; omega) h
      refine ⟨a :: l, by rw [List.map_cons, ← hl, hb], fun y hy => ?_⟩
      rcases List.mem_cons.1 hy with rfl | hy
      · exact hqa
      · exact hq y hy
    | one _ _ _ ha' h hr => rw [ha] at ha'; cases ha'
theorem typedF_nil' {ds : List D} (h : TypedF P [] ds) : ds = [] := by cases h; rfl
theorem typedA_str {t : TypeId} {ts : List TypeId} {ds : List D} (hu : P.underlying t = some .string) (ha : aggT P t = false) (h : TypedA P (t :: ts) ds) : ∃ s r, ds = .str s :: r ∧ s.length ≤ maxLen ∧ TypedA P ts r := by
  obtain ⟨d, r, rfl, h1, h2⟩ := typedA_one ha h
  obtain ⟨s, hs, hl⟩ := typed_str hu h1
  cases hs
  exact ⟨s, r, rfl, hl, h2⟩
theorem typedA_int {t : TypeId} {k : IntKind} {ts : List TypeId} {ds : List D} (hu : P.underlying t = some (.int k)) (ha : aggT P t = false) (h : TypedA P (t :: ts) ds) : ∃ n r, ds = .int k n :: r ∧ (Lit.int k n).wf = true ∧ TypedA P ts r := by
  obtain ⟨d, r, rfl, h1, h2⟩ := typedA_one ha h
  obtain ⟨s, hs, hl⟩ := typed_int hu h1
  cases hs
  exact ⟨s, r, rfl, hl, h2⟩
theorem typedA_slice {t e : TypeId} {ts : List TypeId} {ds : List D} (hu : P.underlying t = some (.slice e)) (ha : aggT P t = false) (h : TypedA P (t :: ts) ds) : ∃ xs r, ds = .sl false xs :: r ∧ xs.length ≤ maxLen ∧ TypedE P e xs ∧ TypedA P ts r := by
  obtain ⟨d, r, rfl, h1, h2⟩ := typedA_one ha h
  obtain ⟨s, hs, hl, hx⟩ := typed_slice hu h1
  cases hs
  exact ⟨s, r, rfl, hl, hx, h2⟩
theorem typedE_ints {e : TypeId} {k : IntKind} {xs : List D} (hu : P.underlying e = some (.int k)) (ha : aggT P e = false) (h : TypedE P e xs) : ∃ l : List Int, xs = l.map (.int k) :=
  typedE_one ha h _ fun x hx => by
    obtain ⟨n, hn, -⟩ := typed_int hu hx
    cases hn
    exact ⟨n, rfl⟩
end

/-- the row's contract, where it lists variables and a function reads one of the library's own -/
theorem law_lifted {C : Checked} {os : Os} {f : FuncId} {fn : Func} {s : ChangeSpec} {H : Type} {enc : TypeId × Value → H} {conds : List PathCond} {laid : List (String × DataW Unit)} {A : Ann} {S : List TypeId} {tb : TypeId}
    (started : os.Started) (own : ownKnob C.prog.godebug = none) (noInit : C.prog.inits.idxOf? f = none) (hfn : C.prog.funcs[f]? = some fn)
    (witness : ∃ (w : World) (tape : Tape) (i : Input), w.os = os ∧ (w.forCall tape i).Shaped C.prog ∧ i.vars = [] ∧ Input.okWide C.prog (w.forCall tape i) .any w.heap.size f i ∧
      ((s.pre enc C.prog fn conds false (w.forCall tape i).memory i.args ∧ laidMetH C.prog laid (w.forCall tape i).memory) ∧ sizedMet enc C.prog fn (OpenSpec.ofChange s) false (w.forCall tape i).memory i.args) ∧ ({} : Assume).holds C.prog (lone (Frame.enter C.prog f i.args .normal) [] (w.forCall tape i)))
    (hvars : s.vars = []) (hl : laidOutB C.prog = true)
    (hts : (fn.params.toList.all fun t => C.prog.readableRec t && decide (t < C.prog.types.size)) = true) (hS : plainS C.prog S = true) (hpl : (fn.params.toList.all fun t => S.contains t) = true)
    (hbod : bodied C.prog f = true) (hres : fn.resultTypes = #[tb]) (htb : C.prog.underlying tb = some .bool)
    (hs : ∀ ds : List (DataW H), ds.length = fn.params.size → (s.fn H ds).results = [.lit (.bool true)] ∧ (s.fn H ds).args = ds ∧ (s.fn H ds).vars = [])
    (hprim : ∀ W : World, W.ShapedOpen C.prog → @PrimOk ⟨im0 W⟩ C.prog A)
    (hrun : ∀ Ds, TypedA C.prog fn.params.toList Ds → ∃ k H', runF C.prog A k f Ds [] = some (.ok (.bool true) H')) :
    ReturnsInHanded {} C os f .any (fun w args => (s.pre enc C.prog fn conds false w args ∧ laidMetH C.prog laid w) ∧ sizedMet enc C.prog fn (OpenSpec.ofChange s) false w args) (s.post enc C.prog fn false true false false) := by
  refine returnsInHanded_of_calls own started noInit witness ?_
  intro w tape i _ hsh _ hok hpre hholds
  obtain ⟨_, _, _, fn', hfn', _, _, _, _, hval⟩ := hok
  have e : fn' = fn := Option.some.inj (hfn'.symm.trans hfn)
  subst e
  obtain ⟨⟨⟨ds, gs, before, hw, hc⟩, hx⟩, hz⟩ := hpre
  have hw' := DataW.Whole.of_heap (w' := w.forCall tape i) (by rfl) hw
  have hts' : ∀ t ∈ fn'.params.toList, C.prog.readableRec t = true ∧ t < C.prog.types.size := fun t ht => by
    have h2 : C.prog.readableRec t = true ∧ decide (t < C.prog.types.size) = true := by simpa only [Bool.and_eq_true] using List.all_eq_true.1 hts t ht
    exact ⟨h2.1, of_decide_eq_true h2.2⟩
  refine (law_contract hvars hl hts' hS hpl hbod hres htb hs hrun (w.forCall tape i) w.heap.size i.args ds gs before hval hw' (hprim _ hsh)).mono fun e W' ⟨v, he, hp⟩ => ?_
  subst he
  exact ChangeSpec.post_blind hp
end Vm
end
/- The chapter on machines with free steps: what typed data are. -/
section
set_option maxHeartbeats 4000000
set_option linter.unusedVariables false
set_option linter.unusedSimpArgs false
namespace Go.Proofs.W
open Go Vm Go.Proofs.Zs06

theorem typedA_agg {t : TypeId} {ts : List TypeId} {ds : List D} (ha : aggT Try.prog t = true) (h : TypedA Try.prog (t :: ts) ds) : ∃ cs r, ds = .agg cs :: r ∧ Typed Try.prog t cs ∧ TypedA Try.prog ts r := by
  cases h with
  | agg _ _ cs ds _ h hr => exact ⟨cs, ds, rfl, h, hr⟩
  | one _ _ d ds ha' => rw [ha] at ha'; cases ha'
theorem typedE_intsW {e : TypeId} {k : IntKind} {xs : List D} (hu : Try.prog.underlying e = some (.int k)) (ha : aggT Try.prog e = false) (h : TypedE Try.prog e xs) : ∃ l : List Int, xs = l.map (.int k) ∧ ∀ x ∈ l, (Lit.int k x).wf = true := by
  obtain ⟨l, rfl⟩ := typedE_one ha h (α := { n : Int // (Lit.int k n).wf = true }) (fun a => .int k a.1) fun x hx => by
    obtain ⟨n, hn, hw⟩ := typed_int hu hx
    cases hn
    exact ⟨⟨n, hw⟩, rfl⟩
  refine ⟨l.map (·.1), by simp, fun x hx => ?_⟩
  obtain ⟨a, -, rfl⟩ := List.mem_map.1 hx
  exact a.2
theorem typedE_rows {xs : List D} (h : TypedE Try.prog 27 xs) : ∃ l : List (List Int), xs = l.map isD :=
  typedE_one (by kernel_rfl) h isD fun x hx => by
    obtain ⟨ys, hy, -, he⟩ := typed_slice un27 hx
    cases hy
    obtain ⟨l, rfl⟩ := typedE_ints un3 (by kernel_rfl) he
    exact ⟨l, rfl⟩
theorem ftNfa : fieldTs Try.prog 29 = some [25, 26, 27, 27] := by kernel_rfl
theorem wf_u16' {n : Int} (h : (Lit.int .u16 n).wf = true) : 0 ≤ n ∧ n < 65536 := by simp [Lit.wf, IntKind.min, IntKind.max, IntKind.signed, IntKind.bits] at h; omega
theorem nfa_of_typed {cs : List D} (h : Typed Try.prog 29 cs) : ∃ n : Nfa, D.agg cs = nfaD n ∧ tyN n := by
  have hf0 := typed_fields ftNfa h
  obtain ⟨a, b, rfl, ha, hf1⟩ := typedF_cons hf0
  obtain ⟨x1, rfl, -, h1⟩ := typed_slice un25 ha
  obtain ⟨a, b, rfl, ha, hf2⟩ := typedF_cons hf1
  obtain ⟨x2, rfl, -, h2⟩ := typed_slice un26 ha
  obtain ⟨a, b, rfl, ha, hf3⟩ := typedF_cons hf2
  obtain ⟨x3, rfl, -, h3⟩ := typed_slice un27 ha
  obtain ⟨a, b, rfl, ha, hf4⟩ := typedF_cons hf3
  obtain ⟨x4, rfl, -, h4⟩ := typed_slice un27 ha
  cases typedF_nil hf4
  obtain ⟨l1, rfl⟩ := typedE_rows h1
  obtain ⟨l2, rfl, hw⟩ := typedE_intsW un36 (by kernel_rfl) h2
  obtain ⟨l3, rfl⟩ := typedE_ints un3 (by kernel_rfl) h3
  obtain ⟨l4, rfl⟩ := typedE_ints un3 (by kernel_rfl) h4
  exact ⟨⟨l1, l2, l3, l4⟩, rfl, fun x hx => wf_u16' (hw x hx)⟩
end Go.Proofs.W
end
/- The chapter on machines with free steps: typed expressions. -/
section
set_option maxHeartbeats 4000000
set_option linter.unusedVariables false
set_option linter.unusedSimpArgs false
namespace Go.Proofs.W
open Go Vm Go.Proofs.Zs06

theorem ftRx : fieldTs Try.prog 51 = some [5, 36, 22] := by kernel_rfl
theorem aggRx : aggT Try.prog 51 = true := by kernel_rfl
mutual
def tyR : Rx → Prop
  | .mk k s l => 0 ≤ k ∧ k < 256 ∧ 0 ≤ s ∧ s < 65536 ∧ tyL l
def tyL : List Rx → Prop
  | [] => True
  | r :: l => tyR r ∧ tyL l
end
theorem tyL_of : ∀ {l : List Rx}, (∀ r ∈ l, tyR r) → tyL l
  | [], _ => trivial
  | r :: l, h => ⟨h r (by simp), tyL_of fun x hx => h x (by simp [hx])⟩
theorem tyL_get : ∀ {l : List Rx}, tyL l → ∀ r ∈ l, tyR r
  | r :: l, h, x, hx => by
    rcases List.mem_cons.1 hx with rfl | hx
    · exact h.1
    · exact tyL_get h.2 x hx
theorem okL_of : ∀ {l : List Rx}, (∀ r ∈ l, okR r) → okL l
  | [], _ => trivial
  | r :: l, h => ⟨h r (by simp), okL_of fun x hx => h x (by simp [hx])⟩
theorem ok_of_great : ∀ (m : Nat) (r : Rx), tyR r → greatR m r = false → okR r := by
  intro m
  induction m with
  | zero => rintro ⟨k, s, l⟩ _ h; simp [greatR] at h
  | succ m ih =>
    rintro ⟨k, s, l⟩ ⟨h1, h2, h3, h4, h5⟩ h
    simp only [greatR, Bool.or_eq_false_iff, decide_eq_false_iff_not] at h
    exact ⟨h1, h2, h3, h4, by omega, okL_of fun r hr => ih r (tyL_get h5 r hr) (by simpa using List.any_eq_false.1 h.2 r hr)⟩
theorem wf_u8 {n : Int} (h : (Lit.int .u8 n).wf = true) : 0 ≤ n ∧ n < 256 := by simp [Lit.wf, IntKind.min, IntKind.max, IntKind.signed, IntKind.bits] at h; omega
theorem rx_of_typed : ∀ (n : Nat) (cs : List D), SizeOf.sizeOf cs < n → Typed Try.prog 51 cs → ∃ r : Rx, D.agg cs = rxD r ∧ tyR r := by
  intro n
  induction n with
  | zero => intro cs h; omega
  | succ n ih =>
    intro cs hn h
    have hf0 := typed_fields ftRx h
    obtain ⟨a, b, rfl, ha, hf1⟩ := typedF_cons hf0
    obtain ⟨k, rfl, hk⟩ := typed_int un5 ha
    obtain ⟨a, b2, rfl, ha, hf2⟩ := typedF_cons hf1
    obtain ⟨s, rfl, hs⟩ := typed_int un36 ha
    obtain ⟨a, b, rfl, ha, hf3⟩ := typedF_cons hf2
    obtain ⟨xs, rfl, hl, hx⟩ := typed_slice un22 ha
    cases typedF_nil hf3
    simp only [List.cons_append, List.nil_append, List.append_nil, List.cons.sizeOf_spec, D.sl.sizeOf_spec] at hn
    obtain ⟨l, rfl, hq⟩ := typedE_aggI aggRx hx rxD tyR fun cs hc ht => ih cs (by omega) ht
    refine ⟨.mk k s l, by rw [rx_mk, rxDs_map]; rfl, (wf_u8 hk).1, (wf_u8 hk).2, (wf_u16' hs).1, (wf_u16' hs).2, tyL_of hq⟩
theorem rxs_of_typed {xs : List D} (h : TypedE Try.prog 51 xs) : ∃ l : List Rx, xs = rxDs l ∧ ∀ r ∈ l, tyR r := by
  obtain ⟨l, rfl, hq⟩ := typedE_aggI aggRx h rxD tyR fun cs _ hc => rx_of_typed _ cs (Nat.lt_succ_self _) hc
  exact ⟨l, (rxDs_map l).symm, hq⟩
theorem ok_of_greatE {l : List Rx} (ht : ∀ r ∈ l, tyR r) (h : greatE l = false) : ∀ r ∈ l, okR r := fun r hr => by
  simp only [greatE, Bool.or_eq_false_iff] at h
  exact ok_of_great 20 r (ht r hr) (by simpa using List.any_eq_false.1 h.2 r hr)
end Go.Proofs.W
end
