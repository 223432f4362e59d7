/- Texts that stand behind this claim, one after the other. -/
import Derived.Test.YtgfmpdgdlmhmcaaDoorM5
import Derived.Test.YtgfmpdgdlmhmcaaDoorM6
import Derived.Shelf.Small.Strs
import Derived.Shelf.Small.Wraps
import Derived.Shelf.Utf8.RuneCount
import Derived.Shelf.Strings.Search1
import Derived.Shelf.Strings.Search2
import Derived.Shelf.Strings.Search3
import Derived.Shelf.Strings.Cut
import Derived.Shelf.Strings.Count
import Derived.Shelf.LaysM
import Derived.Shelf.Strings.Shaped
import Derived.Shelf.Strings.Prefix
import Derived.Shelf.Strings.Split
import Derived.Shelf.Strings.SplitShaped
import Derived.Shelf.Unicode.Decode
import Derived.Shelf.Strings.RuneCount
import Derived.Shelf.Strings.Explode
import Derived.Shelf.Unicode.DecodeSlow
import Derived.Shelf.Unicode.DecodeAny
import Derived.Test.YtgfmpdgdlmhmcaaDoorProg
import Derived.HandedShaped
import Derived.LaidLaws
import Derived.Test.YtgfmpdgdlmhmcaaDoorM4
/- Rules: names, and whether one may stand behind others. -/
section
set_option maxHeartbeats 4000000
set_option linter.unusedVariables false
set_option linter.unusedSimpArgs false
namespace Go.Proofs.W
open Go Vm Go.Proofs.Zs05

structure Rule where
  nm : List UInt8
  rx : Rx
  br : Bool
def ruleD (r : Rule) : D := .agg [.str r.nm, .int .u8 r.rx.k, .int .u16 r.rx.s, .sl false (rxDs r.rx.kids), .bool r.br]
theorem zr_rule : zeroT Tryd.prog 42 = some (.agg [.str [], .int .u8 0, .int .u16 0, .sl true [], .bool false]) := by kernel_rfl
def smallZ (c : UInt8) : Bool := decide (97 ≤ c.toNat ∧ c.toNat ≤ 122)
def nameZ (s : List UInt8) : Bool := decide (0 < s.length) && decide (s.length ≤ 16) && s.all smallZ
theorem all_drop {α : Type} {l : List α} {f : α → Bool} {j : Nat} (h : j < l.length) : (l.drop j).all f = (f l[j] && (l.drop (j + 1)).all f) := by rw [List.drop_eq_getElem_cons h, List.all_cons]
theorem all_drop0 {α : Type} {l : List α} {f : α → Bool} {j : Nat} (h : l.length ≤ j) : (l.drop j).all f = true := by rw [List.drop_eq_nil_of_le h]; rfl
theorem any_drop {α : Type} {l : List α} {f : α → Bool} {j : Nat} (h : j < l.length) : (l.drop j).any f = (f l[j] || (l.drop (j + 1)).any f) := by rw [List.drop_eq_getElem_cons h, List.any_cons]
theorem any_drop0 {α : Type} {l : List α} {f : α → Bool} {j : Nat} (h : l.length ≤ j) : (l.drop j).any f = false := by rw [List.drop_eq_nil_of_le h]; rfl
theorem isName_ok (s : List UInt8) (hs : s.length ≤ 1000000) : PureF Tryd.prog A 25 [.str s] (.bool (nameZ s)) := by
  refine evF_inB (n := 27) (rs := [.tmp 2]) Tryd.func25 rfl rfl rfl rfl rfl rfl ?_
  repeat' (first | refine wpB_seq ?_ | refine wpB_regionL rfl ?_ | refine wpB_block ?_ | refine wpB_skip ?_ | refine wpB_exit ?_ | refine wpB_ret ?_ | simp (maxSteps := 1000000) (dsimp := false) (disch := omega) only [go_sem, simprocAttr, *])
  refine wpB_loop (fun e H => ∃ j : Nat, j ≤ s.length ∧ e 0 = .str s ∧ e 5 = .int .i64 s.length ∧ e 6 = .int .i64 j ∧ s.all smallZ = (s.drop j).all smallZ) (fun e H => s.length - natOf (e 6)) ?_ ?_
  · exact ⟨0, Nat.zero_le _, by simp (maxSteps := 1000000) (dsimp := false) (disch := omega) only [go_sem, simprocAttr, *], by simp (maxSteps := 1000000) (dsimp := false) (disch := omega) only [go_sem, simprocAttr, *], rfl, by simp⟩
  · rintro e H ⟨j, hj, e0, e5, e6, ha⟩ R hR
    repeat' (first | refine wpB_seq ?_ | refine wpB_regionL rfl ?_ | refine wpB_block ?_ | refine wpB_skip ?_ | refine wpB_exit ?_ | refine wpB_ret ?_ | simp (maxSteps := 1000000) (dsimp := false) (disch := omega) only [go_sem, simprocAttr, *])
    refine wpB_cond (by simp (maxSteps := 1000000) (dsimp := false) (disch := omega) only [go_sem, simprocAttr, *]; exact rfl) (fun hb => ?_) (fun hb => ?_) <;> try simp (maxSteps := 1000000) (dsimp := false) (disch := omega) only [go_sem, simprocAttr, decide_eq_true_eq, decide_eq_false_iff_not, Bool.not_eq_true, Bool.not_eq_false, Int.not_lt, Int.not_le] at hb
    · rw [all_drop hb] at ha
      by_cases c1 : 97 ≤ s[j].toNat
      · by_cases c2 : s[j].toNat ≤ 122
        · have hz : smallZ s[j] = true := by simp [smallZ, c1, c2]
          rw [hz, Bool.true_and] at ha
          clear hz
          repeat' (first | refine wpB_seq ?_ | refine wpB_regionL rfl ?_ | refine wpB_block ?_ | refine wpB_skip ?_ | refine wpB_exit ?_ | refine wpB_ret ?_ | simp (maxSteps := 1000000) (dsimp := false) (disch := omega) only [go_sem, simprocAttr, *])
          refine wpB_cond (by simp (maxSteps := 1000000) (dsimp := false) (disch := omega) only [go_sem, simprocAttr, *]; exact rfl) (fun hb2 => ?_) (fun hb2 => ?_) <;> try simp (maxSteps := 1000000) (dsimp := false) (disch := omega) only [go_sem, simprocAttr, decide_eq_true_eq, decide_eq_false_iff_not, Bool.not_eq_true, Bool.not_eq_false, Int.not_lt, Int.not_le] at hb2
          repeat' (first | refine wpB_seq ?_ | refine wpB_regionL rfl ?_ | refine wpB_block ?_ | refine wpB_skip ?_ | refine wpB_exit ?_ | refine wpB_ret ?_ | simp (maxSteps := 1000000) (dsimp := false) (disch := omega) only [go_sem, simprocAttr, *])
          refine hR _ _ ⟨j + 1, by omega, by simp (maxSteps := 1000000) (dsimp := false) (disch := omega) only [go_sem, simprocAttr, *], by simp (maxSteps := 1000000) (dsimp := false) (disch := omega) only [go_sem, simprocAttr, *], by simp (maxSteps := 1000000) (dsimp := false) (disch := omega) only [go_sem, simprocAttr, *], ha⟩ ?_
          simp (maxSteps := 1000000) (dsimp := false) (disch := omega) only [go_sem, simprocAttr, *, natOf_int]
        · have hz : nameZ s = false := by
            have : smallZ s[j] = false := by simp [smallZ, c2]
            rw [this] at ha; simp [nameZ, ha]
          rw [hz]
          repeat' (first | refine wpB_seq ?_ | refine wpB_regionL rfl ?_ | refine wpB_block ?_ | refine wpB_skip ?_ | refine wpB_exit ?_ | refine wpB_ret ?_ | simp (maxSteps := 1000000) (dsimp := false) (disch := omega) only [go_sem, simprocAttr, *])
          refine wpB_cond (by simp (maxSteps := 1000000) (dsimp := false) (disch := omega) only [go_sem, simprocAttr, *]; exact rfl) (fun hb2 => ?_) (fun hb2 => ?_) <;> try simp (maxSteps := 1000000) (dsimp := false) (disch := omega) only [go_sem, simprocAttr, decide_eq_true_eq, decide_eq_false_iff_not, Bool.not_eq_true, Bool.not_eq_false, Int.not_lt, Int.not_le] at hb2
          repeat' (first | refine wpB_seq ?_ | refine wpB_regionL rfl ?_ | refine wpB_block ?_ | refine wpB_skip ?_ | refine wpB_exit ?_ | refine wpB_ret ?_ | simp (maxSteps := 1000000) (dsimp := false) (disch := omega) only [go_sem, simprocAttr, *])
          try rfl
      · have hz : nameZ s = false := by
          have : smallZ s[j] = false := by simp [smallZ, c1]
          rw [this] at ha; simp [nameZ, ha]
        rw [hz]
        repeat' (first | refine wpB_seq ?_ | refine wpB_regionL rfl ?_ | refine wpB_block ?_ | refine wpB_skip ?_ | refine wpB_exit ?_ | refine wpB_ret ?_ | simp (maxSteps := 1000000) (dsimp := false) (disch := omega) only [go_sem, simprocAttr, *])
        refine wpB_cond (by simp (maxSteps := 1000000) (dsimp := false) (disch := omega) only [go_sem, simprocAttr, *]; exact rfl) (fun hb2 => ?_) (fun hb2 => ?_) <;> try simp (maxSteps := 1000000) (dsimp := false) (disch := omega) only [go_sem, simprocAttr, decide_eq_true_eq, decide_eq_false_iff_not, Bool.not_eq_true, Bool.not_eq_false, Int.not_lt, Int.not_le] at hb2
        repeat' (first | refine wpB_seq ?_ | refine wpB_regionL rfl ?_ | refine wpB_block ?_ | refine wpB_skip ?_ | refine wpB_exit ?_ | refine wpB_ret ?_ | simp (maxSteps := 1000000) (dsimp := false) (disch := omega) only [go_sem, simprocAttr, *])
        try rfl
    · rw [all_drop0 (by omega)] at ha
      by_cases c1 : 0 < s.length
      · have hz : nameZ s = decide (s.length ≤ 16) := by simp [nameZ, c1, ha]
        rw [hz]
        have hne : (s == []) = false := by cases s with | nil => simp at c1 | cons a b => rfl
        clear hz ha
        have hle : ((s.length : Int) ≤ 16) = (s.length ≤ 16) := by simp only [eq_iff_iff]; omega
        repeat' (first | refine wpB_seq ?_ | refine wpB_regionL rfl ?_ | refine wpB_block ?_ | refine wpB_skip ?_ | refine wpB_exit ?_ | refine wpB_ret ?_ | simp (maxSteps := 1000000) (dsimp := false) (disch := omega) only [go_sem, simprocAttr, *])
        try simp only [hle]
      · have hz : nameZ s = false := by simp [nameZ, c1]
        have : s = [] := by cases s with | nil => rfl | cons a b => simp at c1
        subst this
        rw [hz]
        repeat' (first | refine wpB_seq ?_ | refine wpB_regionL rfl ?_ | refine wpB_block ?_ | refine wpB_skip ?_ | refine wpB_exit ?_ | refine wpB_ret ?_ | simp (maxSteps := 1000000) (dsimp := false) (disch := omega) only [go_sem, simprocAttr, *])
theorem name_ok (s : List UInt8) (hs : s.length ≤ 1000000) : PureF Tryd.prog A 29 [.str s] (.bool (nameZ s)) := by
  refine evF_inB (n := 28) (rs := [.tmp 2]) Tryd.func29 rfl rfl rfl rfl rfl rfl ?_
  by_cases c1 : 0 < s.length
  · by_cases c2 : s.length ≤ 16
    · have hz : nameZ s = s.all smallZ := by simp [nameZ, c1, c2]
      rw [hz]
      clear hz
      repeat' (first | refine wpB_seq ?_ | refine wpB_regionL rfl ?_ | refine wpB_block ?_ | refine wpB_skip ?_ | refine wpB_exit ?_ | refine wpB_ret ?_ | simp (maxSteps := 1000000) (dsimp := false) (disch := omega) only [go_sem, simprocAttr, *])
      refine wpB_cond (by simp (maxSteps := 1000000) (dsimp := false) (disch := omega) only [go_sem, simprocAttr, *]; exact rfl) (fun hb => ?_) (fun hb => ?_) <;> try simp (maxSteps := 1000000) (dsimp := false) (disch := omega) only [go_sem, simprocAttr, decide_eq_true_eq, decide_eq_false_iff_not, Bool.not_eq_true, Bool.not_eq_false, Int.not_lt, Int.not_le] at hb
      repeat' (first | refine wpB_seq ?_ | refine wpB_regionL rfl ?_ | refine wpB_block ?_ | refine wpB_skip ?_ | refine wpB_exit ?_ | refine wpB_ret ?_ | simp (maxSteps := 1000000) (dsimp := false) (disch := omega) only [go_sem, simprocAttr, *])
      refine wpB_loop (fun e H => ∃ j : Nat, j ≤ s.length ∧ e 0 = .str s ∧ e 3 = .int .i64 j ∧ s.all smallZ = (s.drop j).all smallZ) (fun e H => s.length - natOf (e 3)) ?_ ?_
      · exact ⟨0, Nat.zero_le _, by simp (maxSteps := 1000000) (dsimp := false) (disch := omega) only [go_sem, simprocAttr, *], rfl, by simp⟩
      · rintro e H ⟨j, hj, e0, e3, ha⟩ R hR
        repeat' (first | refine wpB_seq ?_ | refine wpB_regionL rfl ?_ | refine wpB_block ?_ | refine wpB_skip ?_ | refine wpB_exit ?_ | refine wpB_ret ?_ | simp (maxSteps := 1000000) (dsimp := false) (disch := omega) only [go_sem, simprocAttr, *])
        refine wpB_cond (by simp (maxSteps := 1000000) (dsimp := false) (disch := omega) only [go_sem, simprocAttr, *]; exact rfl) (fun hb2 => ?_) (fun hb2 => ?_) <;> try simp (maxSteps := 1000000) (dsimp := false) (disch := omega) only [go_sem, simprocAttr, decide_eq_true_eq, decide_eq_false_iff_not, Bool.not_eq_true, Bool.not_eq_false, Int.not_lt, Int.not_le] at hb2
        · rw [all_drop hb2] at ha
          by_cases c3 : 97 ≤ s[j].toNat
          · by_cases c4 : s[j].toNat ≤ 122
            · have hz : smallZ s[j] = true := by simp [smallZ, c3, c4]
              rw [hz, Bool.true_and] at ha
              clear hz
              repeat' (first | refine wpB_seq ?_ | refine wpB_regionL rfl ?_ | refine wpB_block ?_ | refine wpB_skip ?_ | refine wpB_exit ?_ | refine wpB_ret ?_ | simp (maxSteps := 1000000) (dsimp := false) (disch := omega) only [go_sem, simprocAttr, *])
              refine wpB_cond (by simp (maxSteps := 1000000) (dsimp := false) (disch := omega) only [go_sem, simprocAttr, *]; exact rfl) (fun hb3 => ?_) (fun hb3 => ?_) <;> try simp (maxSteps := 1000000) (dsimp := false) (disch := omega) only [go_sem, simprocAttr, decide_eq_true_eq, decide_eq_false_iff_not, Bool.not_eq_true, Bool.not_eq_false, Int.not_lt, Int.not_le] at hb3
              repeat' (first | refine wpB_seq ?_ | refine wpB_regionL rfl ?_ | refine wpB_block ?_ | refine wpB_skip ?_ | refine wpB_exit ?_ | refine wpB_ret ?_ | simp (maxSteps := 1000000) (dsimp := false) (disch := omega) only [go_sem, simprocAttr, *])
              refine hR _ _ ⟨j + 1, by omega, by simp (maxSteps := 1000000) (dsimp := false) (disch := omega) only [go_sem, simprocAttr, *], by simp (maxSteps := 1000000) (dsimp := false) (disch := omega) only [go_sem, simprocAttr, *], ha⟩ ?_
              simp (maxSteps := 1000000) (dsimp := false) (disch := omega) only [go_sem, simprocAttr, *, natOf_int]
            · have hz : s.all smallZ = false := by
                have : smallZ s[j] = false := by simp [smallZ, c4]
                rw [this] at ha; simpa using ha
              rw [hz]
              repeat' (first | refine wpB_seq ?_ | refine wpB_regionL rfl ?_ | refine wpB_block ?_ | refine wpB_skip ?_ | refine wpB_exit ?_ | refine wpB_ret ?_ | simp (maxSteps := 1000000) (dsimp := false) (disch := omega) only [go_sem, simprocAttr, *])
              refine wpB_cond (by simp (maxSteps := 1000000) (dsimp := false) (disch := omega) only [go_sem, simprocAttr, *]; exact rfl) (fun hb3 => ?_) (fun hb3 => ?_) <;> try simp (maxSteps := 1000000) (dsimp := false) (disch := omega) only [go_sem, simprocAttr, decide_eq_true_eq, decide_eq_false_iff_not, Bool.not_eq_true, Bool.not_eq_false, Int.not_lt, Int.not_le] at hb3
              repeat' (first | refine wpB_seq ?_ | refine wpB_regionL rfl ?_ | refine wpB_block ?_ | refine wpB_skip ?_ | refine wpB_exit ?_ | refine wpB_ret ?_ | simp (maxSteps := 1000000) (dsimp := false) (disch := omega) only [go_sem, simprocAttr, *])
              try rfl
          · have hz : s.all smallZ = false := by
              have : smallZ s[j] = false := by simp [smallZ, c3]
              rw [this] at ha; simpa using ha
            rw [hz]
            repeat' (first | refine wpB_seq ?_ | refine wpB_regionL rfl ?_ | refine wpB_block ?_ | refine wpB_skip ?_ | refine wpB_exit ?_ | refine wpB_ret ?_ | simp (maxSteps := 1000000) (dsimp := false) (disch := omega) only [go_sem, simprocAttr, *])
            refine wpB_cond (by simp (maxSteps := 1000000) (dsimp := false) (disch := omega) only [go_sem, simprocAttr, *]; exact rfl) (fun hb3 => ?_) (fun hb3 => ?_) <;> try simp (maxSteps := 1000000) (dsimp := false) (disch := omega) only [go_sem, simprocAttr, decide_eq_true_eq, decide_eq_false_iff_not, Bool.not_eq_true, Bool.not_eq_false, Int.not_lt, Int.not_le] at hb3
            repeat' (first | refine wpB_seq ?_ | refine wpB_regionL rfl ?_ | refine wpB_block ?_ | refine wpB_skip ?_ | refine wpB_exit ?_ | refine wpB_ret ?_ | simp (maxSteps := 1000000) (dsimp := false) (disch := omega) only [go_sem, simprocAttr, *])
            try rfl
        · rw [all_drop0 (by omega)] at ha
          rw [ha]
          repeat' (first | refine wpB_seq ?_ | refine wpB_regionL rfl ?_ | refine wpB_block ?_ | refine wpB_skip ?_ | refine wpB_exit ?_ | refine wpB_ret ?_ | simp (maxSteps := 1000000) (dsimp := false) (disch := omega) only [go_sem, simprocAttr, *])
          try rfl
    · have hz : nameZ s = false := by simp [nameZ, c2]
      rw [hz]
      repeat' (first | refine wpB_seq ?_ | refine wpB_regionL rfl ?_ | refine wpB_block ?_ | refine wpB_skip ?_ | refine wpB_exit ?_ | refine wpB_ret ?_ | simp (maxSteps := 1000000) (dsimp := false) (disch := omega) only [go_sem, simprocAttr, *])
      refine wpB_cond (by simp (maxSteps := 1000000) (dsimp := false) (disch := omega) only [go_sem, simprocAttr, *]; exact rfl) (fun hb => ?_) (fun hb => ?_) <;> try simp (maxSteps := 1000000) (dsimp := false) (disch := omega) only [go_sem, simprocAttr, decide_eq_true_eq, decide_eq_false_iff_not, Bool.not_eq_true, Bool.not_eq_false, Int.not_lt, Int.not_le] at hb
      repeat' (first | refine wpB_seq ?_ | refine wpB_regionL rfl ?_ | refine wpB_block ?_ | refine wpB_skip ?_ | refine wpB_exit ?_ | refine wpB_ret ?_ | simp (maxSteps := 1000000) (dsimp := false) (disch := omega) only [go_sem, simprocAttr, *])
      try rfl
  · have hz : nameZ s = false := by simp [nameZ, c1]
    rw [hz]
    repeat' (first | refine wpB_seq ?_ | refine wpB_regionL rfl ?_ | refine wpB_block ?_ | refine wpB_skip ?_ | refine wpB_exit ?_ | refine wpB_ret ?_ | simp (maxSteps := 1000000) (dsimp := false) (disch := omega) only [go_sem, simprocAttr, *])
    refine wpB_cond (by simp (maxSteps := 1000000) (dsimp := false) (disch := omega) only [go_sem, simprocAttr, *]; exact rfl) (fun hb => ?_) (fun hb => ?_) <;> try simp (maxSteps := 1000000) (dsimp := false) (disch := omega) only [go_sem, simprocAttr, decide_eq_true_eq, decide_eq_false_iff_not, Bool.not_eq_true, Bool.not_eq_false, Int.not_lt, Int.not_le] at hb
    repeat' (first | refine wpB_seq ?_ | refine wpB_regionL rfl ?_ | refine wpB_block ?_ | refine wpB_skip ?_ | refine wpB_exit ?_ | refine wpB_ret ?_ | simp (maxSteps := 1000000) (dsimp := false) (disch := omega) only [go_sem, simprocAttr, *])
    try rfl
theorem rule_cells (r : Rule) : (ruleD r).cells.length = 5 := rfl
theorem rule_aggQ (r : Rule) : aggQ (ruleD r) = true := rfl
theorem rule_noTup (r : Rule) : noTup (ruleD r) = true := rfl
theorem strip_rule (r : Rule) : strip (ruleD r) = some (ruleD r) := by simp [ruleD, strip, stripL, strip_rxs]
theorem strip_rules (l : List Rule) : stripL (l.map ruleD) = some (l.map ruleD) := by
  induction l with
  | nil => rfl
  | cons r l ih => simp [stripL, ih, strip_rule]
theorem rule_rx (r : Rule) : rxD r.rx = .agg [.int .u8 r.rx.k, .int .u16 r.rx.s, .sl false (rxDs r.rx.kids)] := by cases r with | mk a x b => cases x; rfl
def namedZ (l : List Rule) (s : List UInt8) : Bool := l.any fun r => r.nm == s
attribute [local go_sem] zr_rule
theorem named_ok (l : List Rule) (hl : l.length ≤ 1000) (s : List UInt8) : PureF Tryd.prog A 26 [.sl false (l.map ruleD), .str s] (.bool (namedZ l s)) := by
  refine evF_inB (n := 18) (rs := [.tmp 4]) Tryd.func26 rfl rfl rfl rfl rfl rfl ?_
  repeat' (first | refine wpB_seq ?_ | refine wpB_regionL rfl ?_ | refine wpB_block ?_ | refine wpB_skip ?_ | refine wpB_exit ?_ | refine wpB_ret ?_ | simp (maxSteps := 1000000) (dsimp := false) (disch := omega) only [go_sem, simprocAttr, *])
  refine wpB_loop (fun e H => ∃ j : Nat, j ≤ l.length ∧ e 1 = .str s ∧ e 7 = .sl false (l.map ruleD) ∧ e 8 = .int .i64 l.length ∧ e 9 = .int .i64 j ∧ namedZ l s = (l.drop j).any (fun r => r.nm == s)) (fun e H => l.length - natOf (e 9)) ?_ ?_
  · exact ⟨0, Nat.zero_le _, by simp (maxSteps := 1000000) (dsimp := false) (disch := omega) only [go_sem, simprocAttr, *], by simp (maxSteps := 1000000) (dsimp := false) (disch := omega) only [go_sem, simprocAttr, *], by simp (maxSteps := 1000000) (dsimp := false) (disch := omega) only [go_sem, simprocAttr, *], rfl, by simp [namedZ]⟩
  · rintro e H ⟨j, hj, e1, e7, e8, e9, ha⟩ R hR
    repeat' (first | refine wpB_seq ?_ | refine wpB_regionL rfl ?_ | refine wpB_block ?_ | refine wpB_skip ?_ | refine wpB_exit ?_ | refine wpB_ret ?_ | simp (maxSteps := 1000000) (dsimp := false) (disch := omega) only [go_sem, simprocAttr, *])
    refine wpB_cond (by simp (maxSteps := 1000000) (dsimp := false) (disch := omega) only [go_sem, simprocAttr, *]; exact rfl) (fun hb => ?_) (fun hb => ?_) <;> try simp (maxSteps := 1000000) (dsimp := false) (disch := omega) only [go_sem, simprocAttr, decide_eq_true_eq, decide_eq_false_iff_not, Bool.not_eq_true, Bool.not_eq_false, Int.not_lt, Int.not_le] at hb
    · rw [any_drop hb] at ha
      have hx : (l.map ruleD)[j]? = some (ruleD l[j]) := by simp [hb]
      have hx' : ruleD l[j] = .agg [.str l[j].nm, .int .u8 l[j].rx.k, .int .u16 l[j].rx.s, .sl false (rxDs l[j].rx.kids), .bool l[j].br] := rfl
      rw [hx'] at hx
      generalize l[j] = r at *
      cases hq : (r.nm == s) with
      | true =>
        rw [hq, Bool.true_or] at ha
        rw [ha]
        repeat' (first | refine wpB_seq ?_ | refine wpB_regionL rfl ?_ | refine wpB_block ?_ | refine wpB_skip ?_ | refine wpB_exit ?_ | refine wpB_ret ?_ | simp (maxSteps := 1000000) (dsimp := false) (disch := omega) only [go_sem, simprocAttr, *])
        refine wpB_cond (by simp (maxSteps := 1000000) (dsimp := false) (disch := omega) only [go_sem, simprocAttr, *]; exact rfl) (fun hb2 => ?_) (fun hb2 => ?_) <;> try simp (maxSteps := 1000000) (dsimp := false) (disch := omega) only [go_sem, simprocAttr, decide_eq_true_eq, decide_eq_false_iff_not, Bool.not_eq_true, Bool.not_eq_false, Int.not_lt, Int.not_le] at hb2
        repeat' (first | refine wpB_seq ?_ | refine wpB_regionL rfl ?_ | refine wpB_block ?_ | refine wpB_skip ?_ | refine wpB_exit ?_ | refine wpB_ret ?_ | simp (maxSteps := 1000000) (dsimp := false) (disch := omega) only [go_sem, simprocAttr, *])
        try rfl
      | false =>
        rw [hq, Bool.false_or] at ha
        repeat' (first | refine wpB_seq ?_ | refine wpB_regionL rfl ?_ | refine wpB_block ?_ | refine wpB_skip ?_ | refine wpB_exit ?_ | refine wpB_ret ?_ | simp (maxSteps := 1000000) (dsimp := false) (disch := omega) only [go_sem, simprocAttr, *])
        refine wpB_cond (by simp (maxSteps := 1000000) (dsimp := false) (disch := omega) only [go_sem, simprocAttr, *]; exact rfl) (fun hb2 => ?_) (fun hb2 => ?_) <;> try simp (maxSteps := 1000000) (dsimp := false) (disch := omega) only [go_sem, simprocAttr, decide_eq_true_eq, decide_eq_false_iff_not, Bool.not_eq_true, Bool.not_eq_false, Int.not_lt, Int.not_le] at hb2
        repeat' (first | refine wpB_seq ?_ | refine wpB_regionL rfl ?_ | refine wpB_block ?_ | refine wpB_skip ?_ | refine wpB_exit ?_ | refine wpB_ret ?_ | simp (maxSteps := 1000000) (dsimp := false) (disch := omega) only [go_sem, simprocAttr, *])
        refine hR _ _ ⟨j + 1, by omega, by simp (maxSteps := 1000000) (dsimp := false) (disch := omega) only [go_sem, simprocAttr, *], by simp (maxSteps := 1000000) (dsimp := false) (disch := omega) only [go_sem, simprocAttr, *], by simp (maxSteps := 1000000) (dsimp := false) (disch := omega) only [go_sem, simprocAttr, *], by simp (maxSteps := 1000000) (dsimp := false) (disch := omega) only [go_sem, simprocAttr, *], ha⟩ ?_
        simp (maxSteps := 1000000) (dsimp := false) (disch := omega) only [go_sem, simprocAttr, *, natOf_int]
    · rw [any_drop0 (by omega)] at ha
      rw [ha]
      repeat' (first | refine wpB_seq ?_ | refine wpB_regionL rfl ?_ | refine wpB_block ?_ | refine wpB_skip ?_ | refine wpB_exit ?_ | refine wpB_ret ?_ | simp (maxSteps := 1000000) (dsimp := false) (disch := omega) only [go_sem, simprocAttr, *])
      try rfl
/-- a rule may stand behind others -/
def mayZ (l : List Rule) (r : Rule) : Bool := nameZ r.nm && !namedZ l r.nm && rightR r.rx && !emptyR r.rx
theorem may_ok (l : List Rule) (hl : l.length ≤ 1000) (r : Rule) (hr : okR r.rx) (hn : r.nm.length ≤ 1000000) : PureF Tryd.prog A 19 [.sl false (l.map ruleD), ruleD r] (.bool (mayZ l r)) := by
  have hN := isName_ok r.nm hn
  have hM := named_ok l hl r.nm
  have hR := rightP_ok r.rx hr
  have hE := emptyP_ok r.rx hr
  have hS := strip_rx r.rx
  have hL := strip_rules l
  rw [rule_rx] at hR hE hS
  have hdef : ruleD r = .agg [.str r.nm, .int .u8 r.rx.k, .int .u16 r.rx.s, .sl false (rxDs r.rx.kids), .bool r.br] := rfl
  rw [hdef]
  unfold mayZ
  refine evF_inB (n := 26) (rs := [.tmp 4]) Tryd.func19 rfl rfl rfl rfl rfl rfl ?_
  repeat' (first | refine wpB_seq ?_ | refine wpB_regionL rfl ?_ | refine wpB_block ?_ | refine wpB_skip ?_ | refine wpB_exit ?_ | refine wpB_ret ?_ | simp (maxSteps := 1000000) (dsimp := false) (disch := omega) only [go_sem, simprocAttr, *])
  refine evB_plain bo25 rfl rfl (strip1 rfl) hN ?_
  cases nameZ r.nm with
  | false => simp (maxSteps := 1000000) (dsimp := false) (disch := omega) only [go_sem, simprocAttr, *]; repeat' (first | refine wpB_seq ?_ | refine wpB_regionL rfl ?_ | refine wpB_block ?_ | refine wpB_skip ?_ | refine wpB_exit ?_ | refine wpB_ret ?_ | simp (maxSteps := 1000000) (dsimp := false) (disch := omega) only [go_sem, simprocAttr, *]); try rfl
  | true =>
    simp (maxSteps := 1000000) (dsimp := false) (disch := omega) only [go_sem, simprocAttr, *]
    refine evB_plain bo26 rfl rfl (strip2 (by simp [strip, hL]) rfl) hM ?_
    cases namedZ l r.nm with
    | true => simp (maxSteps := 1000000) (dsimp := false) (disch := omega) only [go_sem, simprocAttr, *]; repeat' (first | refine wpB_seq ?_ | refine wpB_regionL rfl ?_ | refine wpB_block ?_ | refine wpB_skip ?_ | refine wpB_exit ?_ | refine wpB_ret ?_ | simp (maxSteps := 1000000) (dsimp := false) (disch := omega) only [go_sem, simprocAttr, *]); try rfl
    | false =>
      simp (maxSteps := 1000000) (dsimp := false) (disch := omega) only [go_sem, simprocAttr, *]
      refine evB_plain bo27 rfl rfl (strip1 hS) hR ?_
      cases hrr : rightR r.rx with
      | false => simp (maxSteps := 1000000) (dsimp := false) (disch := omega) only [go_sem, simprocAttr, *]; repeat' (first | refine wpB_seq ?_ | refine wpB_regionL rfl ?_ | refine wpB_block ?_ | refine wpB_skip ?_ | refine wpB_exit ?_ | refine wpB_ret ?_ | simp (maxSteps := 1000000) (dsimp := false) (disch := omega) only [go_sem, simprocAttr, *]); try rfl
      | true =>
        rw [hrr] at hE
        simp (maxSteps := 1000000) (dsimp := false) (disch := omega) only [go_sem, simprocAttr, *]
        refine evB_plain bo28 rfl rfl (strip1 hS) hE ?_
        cases emptyR r.rx with
        | false => simp (maxSteps := 1000000) (dsimp := false) (disch := omega) only [go_sem, simprocAttr, *]; repeat' (first | refine wpB_seq ?_ | refine wpB_regionL rfl ?_ | refine wpB_block ?_ | refine wpB_skip ?_ | refine wpB_exit ?_ | refine wpB_ret ?_ | simp (maxSteps := 1000000) (dsimp := false) (disch := omega) only [go_sem, simprocAttr, *]); try rfl
        | true => simp (maxSteps := 1000000) (dsimp := false) (disch := omega) only [go_sem, simprocAttr, *]; repeat' (first | refine wpB_seq ?_ | refine wpB_regionL rfl ?_ | refine wpB_block ?_ | refine wpB_skip ?_ | refine wpB_exit ?_ | refine wpB_ret ?_ | simp (maxSteps := 1000000) (dsimp := false) (disch := omega) only [go_sem, simprocAttr, *]); try rfl
/-- the document's -/
theorem ref_may_ok (l : List Rule) (hl : l.length ≤ 1000) (r : Rule) (hr : okR r.rx) (hn : r.nm.length ≤ 1000000) : PureF Tryd.prog A 20 [.sl false (l.map ruleD), ruleD r] (.bool (mayZ l r)) := by
  have hN := name_ok r.nm hn
  have hR := right_ok r.rx hr
  have hE := hasP_ok [] (by simp) r.rx hr
  have hS := strip_rx r.rx
  have hL := strip_rules l
  rw [rule_rx] at hR hE hS
  have hdef : ruleD r = .agg [.str r.nm, .int .u8 r.rx.k, .int .u16 r.rx.s, .sl false (rxDs r.rx.kids), .bool r.br] := rfl
  rw [hdef]
  refine evF_inB (n := 34) (rs := [.tmp 4]) Tryd.func20 rfl rfl rfl rfl rfl rfl ?_
  repeat' (first | refine wpB_seq ?_ | refine wpB_regionL rfl ?_ | refine wpB_block ?_ | refine wpB_skip ?_ | refine wpB_exit ?_ | refine wpB_ret ?_ | simp (maxSteps := 1000000) (dsimp := false) (disch := omega) only [go_sem, simprocAttr, *])
  refine wpB_loop (fun e H => ∃ j : Nat, j ≤ l.length ∧ e 0 = .sl false (l.map ruleD) ∧ e 3 = .ptr 0 0 0 ∧ H = [Ob.arr [.agg [.str r.nm, .int .u8 r.rx.k, .int .u16 r.rx.s, .sl false (rxDs r.rx.kids), .bool r.br]]] ∧ e 5 = .int .i64 j ∧ namedZ l r.nm = (l.drop j).any (fun x => x.nm == r.nm)) (fun e H => l.length - natOf (e 5)) ?_ ?_
  · exact ⟨0, Nat.zero_le _, by simp (maxSteps := 1000000) (dsimp := false) (disch := omega) only [go_sem, simprocAttr, *], by simp (maxSteps := 1000000) (dsimp := false) (disch := omega) only [go_sem, simprocAttr, *], by rfl, rfl, by simp [namedZ]⟩
  · rintro e H ⟨j, hj, e0, e3, rfl, e5, ha⟩ R hR2
    repeat' (first | refine wpB_seq ?_ | refine wpB_regionL rfl ?_ | refine wpB_block ?_ | refine wpB_skip ?_ | refine wpB_exit ?_ | refine wpB_ret ?_ | simp (maxSteps := 1000000) (dsimp := false) (disch := omega) only [go_sem, simprocAttr, *])
    refine wpB_cond (by simp (maxSteps := 1000000) (dsimp := false) (disch := omega) only [go_sem, simprocAttr, *]; exact rfl) (fun hb => ?_) (fun hb => ?_) <;> try simp (maxSteps := 1000000) (dsimp := false) (disch := omega) only [go_sem, simprocAttr, decide_eq_true_eq, decide_eq_false_iff_not, Bool.not_eq_true, Bool.not_eq_false, Int.not_lt, Int.not_le] at hb
    · rw [any_drop hb] at ha
      have hx : (l.map ruleD)[j]? = some (.agg [.str l[j].nm, .int .u8 l[j].rx.k, .int .u16 l[j].rx.s, .sl false (rxDs l[j].rx.kids), .bool l[j].br]) := by simp [hb, ruleD]
      generalize l[j] = x at *
      cases hq : (x.nm == r.nm) with
      | true =>
        rw [hq, Bool.true_or] at ha
        have hz : mayZ l r = false := by simp [mayZ, ha]
        rw [hz]
        repeat' (first | refine wpB_seq ?_ | refine wpB_regionL rfl ?_ | refine wpB_block ?_ | refine wpB_skip ?_ | refine wpB_exit ?_ | refine wpB_ret ?_ | simp (maxSteps := 1000000) (dsimp := false) (disch := omega) only [go_sem, simprocAttr, *])
        refine wpB_regionXL (prs := []) (by kernel_rfl) rfl (by kernel_rfl) ?_; simp (maxSteps := 1000000) (dsimp := false) (disch := omega) only [go_sem, simprocAttr, *]
        refine wpB_cond (by simp (maxSteps := 1000000) (dsimp := false) (disch := omega) only [go_sem, simprocAttr, *]; exact rfl) (fun hb2 => ?_) (fun hb2 => ?_) <;> try simp (maxSteps := 1000000) (dsimp := false) (disch := omega) only [go_sem, simprocAttr, decide_eq_true_eq, decide_eq_false_iff_not, Bool.not_eq_true, Bool.not_eq_false, Int.not_lt, Int.not_le] at hb2
        repeat' (first | refine wpB_seq ?_ | refine wpB_regionL rfl ?_ | refine wpB_block ?_ | refine wpB_skip ?_ | refine wpB_exit ?_ | refine wpB_ret ?_ | simp (maxSteps := 1000000) (dsimp := false) (disch := omega) only [go_sem, simprocAttr, *])
        try rfl
      | false =>
        rw [hq, Bool.false_or] at ha
        repeat' (first | refine wpB_seq ?_ | refine wpB_regionL rfl ?_ | refine wpB_block ?_ | refine wpB_skip ?_ | refine wpB_exit ?_ | refine wpB_ret ?_ | simp (maxSteps := 1000000) (dsimp := false) (disch := omega) only [go_sem, simprocAttr, *])
        refine wpB_regionXL (prs := []) (by kernel_rfl) rfl (by kernel_rfl) ?_; simp (maxSteps := 1000000) (dsimp := false) (disch := omega) only [go_sem, simprocAttr, *]
        refine wpB_cond (by simp (maxSteps := 1000000) (dsimp := false) (disch := omega) only [go_sem, simprocAttr, *]; exact rfl) (fun hb2 => ?_) (fun hb2 => ?_) <;> try simp (maxSteps := 1000000) (dsimp := false) (disch := omega) only [go_sem, simprocAttr, decide_eq_true_eq, decide_eq_false_iff_not, Bool.not_eq_true, Bool.not_eq_false, Int.not_lt, Int.not_le] at hb2
        repeat' (first | refine wpB_seq ?_ | refine wpB_regionL rfl ?_ | refine wpB_block ?_ | refine wpB_skip ?_ | refine wpB_exit ?_ | refine wpB_ret ?_ | simp (maxSteps := 1000000) (dsimp := false) (disch := omega) only [go_sem, simprocAttr, *])
        refine hR2 _ _ ⟨j + 1, by omega, by simp (maxSteps := 1000000) (dsimp := false) (disch := omega) only [go_sem, simprocAttr, *], by simp (maxSteps := 1000000) (dsimp := false) (disch := omega) only [go_sem, simprocAttr, *], rfl, by simp (maxSteps := 1000000) (dsimp := false) (disch := omega) only [go_sem, simprocAttr, *], ha⟩ ?_
        simp (maxSteps := 1000000) (dsimp := false) (disch := omega) only [go_sem, simprocAttr, *, natOf_int]
    · rw [any_drop0 (by omega)] at ha
      unfold mayZ
      rw [ha]
      clear hR2
      repeat' (first | refine wpB_seq ?_ | refine wpB_regionL rfl ?_ | refine wpB_block ?_ | refine wpB_skip ?_ | refine wpB_exit ?_ | refine wpB_ret ?_ | simp (maxSteps := 1000000) (dsimp := false) (disch := omega) only [go_sem, simprocAttr, *])
      refine evB_plain bo29 rfl rfl (strip1 rfl) hN ?_
      cases nameZ r.nm with
      | false => simp (maxSteps := 1000000) (dsimp := false) (disch := omega) only [go_sem, simprocAttr, *]; repeat' (first | refine wpB_seq ?_ | refine wpB_regionL rfl ?_ | refine wpB_block ?_ | refine wpB_skip ?_ | refine wpB_exit ?_ | refine wpB_ret ?_ | simp (maxSteps := 1000000) (dsimp := false) (disch := omega) only [go_sem, simprocAttr, *]); try rfl
      | true =>
        simp (maxSteps := 1000000) (dsimp := false) (disch := omega) only [go_sem, simprocAttr, *]
        refine evB_plain bo30 rfl rfl (strip1 hS) hR ?_
        cases hrr : rightR r.rx with
        | false => simp (maxSteps := 1000000) (dsimp := false) (disch := omega) only [go_sem, simprocAttr, *]; repeat' (first | refine wpB_seq ?_ | refine wpB_regionL rfl ?_ | refine wpB_block ?_ | refine wpB_skip ?_ | refine wpB_exit ?_ | refine wpB_ret ?_ | simp (maxSteps := 1000000) (dsimp := false) (disch := omega) only [go_sem, simprocAttr, *]); try rfl
        | true =>
          have hsr : shapesR r.rx = true := by simp only [rightR, Bool.and_eq_true] at hrr; exact hrr.2
          have hE := hE hsr
          rw [has_nil r.rx hsr] at hE
          simp (maxSteps := 1000000) (dsimp := false) (disch := omega) only [go_sem, simprocAttr, *]
          refine evB_pure bo31 rfl rfl (pures_strip (l' := [_, isD []]) (by unfold stripL; rw [hS]; rfl)) hE ?_
          cases emptyR r.rx with
          | false => simp (maxSteps := 1000000) (dsimp := false) (disch := omega) only [go_sem, simprocAttr, *]; repeat' (first | refine wpB_seq ?_ | refine wpB_regionL rfl ?_ | refine wpB_block ?_ | refine wpB_skip ?_ | refine wpB_exit ?_ | refine wpB_ret ?_ | simp (maxSteps := 1000000) (dsimp := false) (disch := omega) only [go_sem, simprocAttr, *]); try rfl
          | true => simp (maxSteps := 1000000) (dsimp := false) (disch := omega) only [go_sem, simprocAttr, *]; repeat' (first | refine wpB_seq ?_ | refine wpB_regionL rfl ?_ | refine wpB_block ?_ | refine wpB_skip ?_ | refine wpB_exit ?_ | refine wpB_ret ?_ | simp (maxSteps := 1000000) (dsimp := false) (disch := omega) only [go_sem, simprocAttr, *]); try rfl
end Go.Proofs.W
end
/- Rules: whether a grammar may be, and whether it is looked at. -/
section
set_option maxHeartbeats 4000000
set_option linter.unusedVariables false
set_option linter.unusedSimpArgs false
namespace Go.Proofs.W
open Go Vm Go.Proofs.Zs05

def rulesD (l : List Rule) : D := .sl false (l.map ruleD)
/-- each rule may stand behind those ahead -/
def mayAll : List Rule → List Rule → Bool
  | _, [] => true
  | a, r :: l => mayZ a r && mayAll (a ++ [r]) l
def rightG (l : List Rule) : Bool := decide (1 ≤ l.length ∧ l.length ≤ 16) && mayAll [] l
theorem mayAll_drop {l : List Rule} {j : Nat} (h : j < l.length) : mayAll (l.take j) (l.drop j) = (mayZ (l.take j) l[j] && mayAll (l.take (j + 1)) (l.drop (j + 1))) := by
  rw [List.drop_eq_getElem_cons h, mayAll, take_succ' h]
theorem mayAll_drop0 {l : List Rule} {j : Nat} (h : l.length ≤ j) : mayAll (l.take j) (l.drop j) = true := by rw [List.drop_eq_nil_of_le h]; rfl
attribute [local go_sem] zr_rule
theorem right_rules_ok (l : List Rule) (hl : l.length ≤ 1000) (hr : ∀ r ∈ l, okR r.rx ∧ r.nm.length ≤ 1000000) : PureF Tryd.prog A 9 [rulesD l] (.bool (rightG l)) := by
  refine evF_inB (n := 27) (rs := [.tmp 2]) Tryd.func9 rfl rfl rfl rfl rfl rfl ?_
  by_cases c1 : 1 ≤ l.length
  · by_cases c2 : l.length ≤ 16
    · have hz : rightG l = mayAll (l.take 0) (l.drop 0) := by simp [rightG, c1, c2]
      rw [hz]
      generalize hG : mayAll (l.take 0) (l.drop 0) = G
      clear hz
      repeat' (first | refine wpB_seq ?_ | refine wpB_regionL rfl ?_ | refine wpB_block ?_ | refine wpB_skip ?_ | refine wpB_exit ?_ | refine wpB_ret ?_ | simp (maxSteps := 1000000) (dsimp := false) (disch := omega) only [go_sem, simprocAttr, *, rulesD])
      refine wpB_cond (by simp (maxSteps := 1000000) (dsimp := false) (disch := omega) only [go_sem, simprocAttr, *]; exact rfl) (fun hb => ?_) (fun hb => ?_) <;> try simp (maxSteps := 1000000) (dsimp := false) (disch := omega) only [go_sem, simprocAttr, decide_eq_true_eq, decide_eq_false_iff_not, Bool.not_eq_true, Bool.not_eq_false, Int.not_lt, Int.not_le] at hb
      repeat' (first | refine wpB_seq ?_ | refine wpB_regionL rfl ?_ | refine wpB_block ?_ | refine wpB_skip ?_ | refine wpB_exit ?_ | refine wpB_ret ?_ | simp (maxSteps := 1000000) (dsimp := false) (disch := omega) only [go_sem, simprocAttr, *, rulesD])
      refine wpB_loop (fun e H => ∃ j : Nat, j ≤ l.length ∧ e 0 = rulesD l ∧ e 13 = rulesD l ∧ e 14 = .int .i64 l.length ∧ e 15 = .int .i64 j ∧ G = mayAll (l.take j) (l.drop j)) (fun e H => l.length - natOf (e 15)) ?_ ?_
      · exact ⟨0, Nat.zero_le _, by simp (maxSteps := 1000000) (dsimp := false) (disch := omega) only [go_sem, simprocAttr, *, rulesD], by simp (maxSteps := 1000000) (dsimp := false) (disch := omega) only [go_sem, simprocAttr, *, rulesD], by simp (maxSteps := 1000000) (dsimp := false) (disch := omega) only [go_sem, simprocAttr, *, rulesD], rfl, hG.symm⟩
      · clear hG
        rintro e H ⟨j, hj, e0, e13, e14, e15, ha⟩ R hR
        repeat' (first | refine wpB_seq ?_ | refine wpB_regionL rfl ?_ | refine wpB_block ?_ | refine wpB_skip ?_ | refine wpB_exit ?_ | refine wpB_ret ?_ | simp (maxSteps := 1000000) (dsimp := false) (disch := omega) only [go_sem, simprocAttr, *, rulesD])
        refine wpB_cond (by simp (maxSteps := 1000000) (dsimp := false) (disch := omega) only [go_sem, simprocAttr, *]; exact rfl) (fun hb => ?_) (fun hb => ?_) <;> try simp (maxSteps := 1000000) (dsimp := false) (disch := omega) only [go_sem, simprocAttr, decide_eq_true_eq, decide_eq_false_iff_not, Bool.not_eq_true, Bool.not_eq_false, Int.not_lt, Int.not_le] at hb
        · rw [mayAll_drop hb] at ha
          have hx : (l.map ruleD)[j]? = some (ruleD l[j]) := by simp [hb]
          have q1 := rule_cells l[j]
          have q2 := rule_aggQ l[j]
          have q3 := rule_noTup l[j]
          have hq := hr l[j] (List.getElem_mem hb)
          have hcall := may_ok (l.take j) (by simp; omega) l[j] hq.1 hq.2
          have hst := strip_rule l[j]
          have hhs : headSize 5 (l.map ruleD) = true := by cases l <;> rfl
          have hsl := strip_rules (l.take j)
          rw [List.map_take] at hcall hsl
          generalize hw : ruleD l[j] = d at *
          clear hw
          repeat' (first | refine wpB_seq ?_ | refine wpB_regionL rfl ?_ | refine wpB_block ?_ | refine wpB_skip ?_ | refine wpB_exit ?_ | refine wpB_ret ?_ | simp (maxSteps := 1000000) (dsimp := false) (disch := omega) only [go_sem, simprocAttr, *, rulesD])
          refine wpB_regionXL (prs := []) (by kernel_rfl) rfl (by kernel_rfl) ?_
          simp (maxSteps := 1000000) (dsimp := false) (disch := omega) only [go_sem, simprocAttr, *, rulesD]
          have hst2 : stripL [.sl false ((l.map ruleD).take j), d] = some [.sl false ((l.map ruleD).take j), d] := strip2 (by simp [strip, hsl]) hst
          refine ⟨fun _ => by rw [hst2]; rfl, evB_plain bo19 rfl rfl hst2 hcall ?_⟩
          cases hm : mayZ (l.take j) l[j] with
          | true =>
            rw [hm, Bool.true_and] at ha
            simp (maxSteps := 1000000) (dsimp := false) (disch := omega) only [go_sem, simprocAttr, *, rulesD]
            refine wpB_cond (by simp (maxSteps := 1000000) (dsimp := false) (disch := omega) only [go_sem, simprocAttr, *]; exact rfl) (fun hb2 => ?_) (fun hb2 => ?_) <;> try simp (maxSteps := 1000000) (dsimp := false) (disch := omega) only [go_sem, simprocAttr, decide_eq_true_eq, decide_eq_false_iff_not, Bool.not_eq_true, Bool.not_eq_false, Int.not_lt, Int.not_le] at hb2
            repeat' (first | refine wpB_seq ?_ | refine wpB_regionL rfl ?_ | refine wpB_block ?_ | refine wpB_skip ?_ | refine wpB_exit ?_ | refine wpB_ret ?_ | simp (maxSteps := 1000000) (dsimp := false) (disch := omega) only [go_sem, simprocAttr, *, rulesD])
            refine hR _ _ ⟨j + 1, by omega, by simp (maxSteps := 1000000) (dsimp := false) (disch := omega) only [go_sem, simprocAttr, *, rulesD], by simp (maxSteps := 1000000) (dsimp := false) (disch := omega) only [go_sem, simprocAttr, *, rulesD], by simp (maxSteps := 1000000) (dsimp := false) (disch := omega) only [go_sem, simprocAttr, *, rulesD], by simp (maxSteps := 1000000) (dsimp := false) (disch := omega) only [go_sem, simprocAttr, *], ha⟩ ?_
            simp (maxSteps := 1000000) (dsimp := false) (disch := omega) only [go_sem, simprocAttr, *, natOf_int]
          | false =>
            rw [hm, Bool.false_and] at ha
            rw [ha]
            simp (maxSteps := 1000000) (dsimp := false) (disch := omega) only [go_sem, simprocAttr, *, rulesD]
            refine wpB_cond (by simp (maxSteps := 1000000) (dsimp := false) (disch := omega) only [go_sem, simprocAttr, *]; exact rfl) (fun hb2 => ?_) (fun hb2 => ?_) <;> try simp (maxSteps := 1000000) (dsimp := false) (disch := omega) only [go_sem, simprocAttr, decide_eq_true_eq, decide_eq_false_iff_not, Bool.not_eq_true, Bool.not_eq_false, Int.not_lt, Int.not_le] at hb2
            repeat' (first | refine wpB_seq ?_ | refine wpB_regionL rfl ?_ | refine wpB_block ?_ | refine wpB_skip ?_ | refine wpB_exit ?_ | refine wpB_ret ?_ | simp (maxSteps := 1000000) (dsimp := false) (disch := omega) only [go_sem, simprocAttr, *, rulesD])
            try rfl
        · rw [mayAll_drop0 (by omega)] at ha
          rw [ha]
          repeat' (first | refine wpB_seq ?_ | refine wpB_regionL rfl ?_ | refine wpB_block ?_ | refine wpB_skip ?_ | refine wpB_exit ?_ | refine wpB_ret ?_ | simp (maxSteps := 1000000) (dsimp := false) (disch := omega) only [go_sem, simprocAttr, *])
          try rfl
    · have hz : rightG l = false := by simp [rightG, c2]
      rw [hz]
      repeat' (first | refine wpB_seq ?_ | refine wpB_regionL rfl ?_ | refine wpB_block ?_ | refine wpB_skip ?_ | refine wpB_exit ?_ | refine wpB_ret ?_ | simp (maxSteps := 1000000) (dsimp := false) (disch := omega) only [go_sem, simprocAttr, *, rulesD])
      refine wpB_cond (by simp (maxSteps := 1000000) (dsimp := false) (disch := omega) only [go_sem, simprocAttr, *]; exact rfl) (fun hb => ?_) (fun hb => ?_) <;> try simp (maxSteps := 1000000) (dsimp := false) (disch := omega) only [go_sem, simprocAttr, decide_eq_true_eq, decide_eq_false_iff_not, Bool.not_eq_true, Bool.not_eq_false, Int.not_lt, Int.not_le] at hb
      repeat' (first | refine wpB_seq ?_ | refine wpB_regionL rfl ?_ | refine wpB_block ?_ | refine wpB_skip ?_ | refine wpB_exit ?_ | refine wpB_ret ?_ | simp (maxSteps := 1000000) (dsimp := false) (disch := omega) only [go_sem, simprocAttr, *])
      try rfl
  · have hz : rightG l = false := by simp [rightG, c1]
    rw [hz]
    have : l = [] := by cases l with | nil => rfl | cons a b => simp at c1
    subst this
    clear hr hl c1 hz
    repeat' (first | refine wpB_seq ?_ | refine wpB_regionL rfl ?_ | refine wpB_block ?_ | refine wpB_skip ?_ | refine wpB_exit ?_ | refine wpB_ret ?_ | simp (maxSteps := 1000000) (dsimp := false) (disch := omega) only [go_sem, simprocAttr, *, rulesD])
    refine wpB_cond (by simp (maxSteps := 1000000) (dsimp := false) (disch := omega) only [go_sem, simprocAttr, *]; exact rfl) (fun hb => ?_) (fun hb => ?_) <;> try simp (maxSteps := 1000000) (dsimp := false) (disch := omega) only [go_sem, simprocAttr, decide_eq_true_eq, decide_eq_false_iff_not, Bool.not_eq_true, Bool.not_eq_false, Int.not_lt, Int.not_le] at hb
    repeat' (first | refine wpB_seq ?_ | refine wpB_regionL rfl ?_ | refine wpB_block ?_ | refine wpB_skip ?_ | refine wpB_exit ?_ | refine wpB_ret ?_ | simp (maxSteps := 1000000) (dsimp := false) (disch := omega) only [go_sem, simprocAttr, *])
    try rfl
theorem ref_right_ok (l : List Rule) (hl : l.length ≤ 1000) (hr : ∀ r ∈ l, okR r.rx ∧ r.nm.length ≤ 1000000) : PureF Tryd.prog A 10 [rulesD l] (.bool (rightG l)) := by
  refine evF_inB (n := 27) (rs := [.tmp 2]) Tryd.func10 rfl rfl rfl rfl rfl rfl ?_
  by_cases c1 : 1 ≤ l.length
  · by_cases c2 : l.length ≤ 16
    · have hz : rightG l = mayAll (l.take 0) (l.drop 0) := by simp [rightG, c1, c2]
      rw [hz]
      generalize hG : mayAll (l.take 0) (l.drop 0) = G
      clear hz
      repeat' (first | refine wpB_seq ?_ | refine wpB_regionL rfl ?_ | refine wpB_block ?_ | refine wpB_skip ?_ | refine wpB_exit ?_ | refine wpB_ret ?_ | simp (maxSteps := 1000000) (dsimp := false) (disch := omega) only [go_sem, simprocAttr, *, rulesD])
      refine wpB_cond (by simp (maxSteps := 1000000) (dsimp := false) (disch := omega) only [go_sem, simprocAttr, *]; exact rfl) (fun hb => ?_) (fun hb => ?_) <;> try simp (maxSteps := 1000000) (dsimp := false) (disch := omega) only [go_sem, simprocAttr, decide_eq_true_eq, decide_eq_false_iff_not, Bool.not_eq_true, Bool.not_eq_false, Int.not_lt, Int.not_le] at hb
      repeat' (first | refine wpB_seq ?_ | refine wpB_regionL rfl ?_ | refine wpB_block ?_ | refine wpB_skip ?_ | refine wpB_exit ?_ | refine wpB_ret ?_ | simp (maxSteps := 1000000) (dsimp := false) (disch := omega) only [go_sem, simprocAttr, *, rulesD])
      refine wpB_loop (fun e H => ∃ j : Nat, j ≤ l.length ∧ e 0 = rulesD l ∧ e 3 = .int .i64 j ∧ G = mayAll (l.take j) (l.drop j)) (fun e H => l.length - natOf (e 3)) ?_ ?_
      · exact ⟨0, Nat.zero_le _, by simp (maxSteps := 1000000) (dsimp := false) (disch := omega) only [go_sem, simprocAttr, *, rulesD], rfl, hG.symm⟩
      · clear hG
        rintro e H ⟨j, hj, e0, e3, ha⟩ R hR
        repeat' (first | refine wpB_seq ?_ | refine wpB_regionL rfl ?_ | refine wpB_block ?_ | refine wpB_skip ?_ | refine wpB_exit ?_ | refine wpB_ret ?_ | simp (maxSteps := 1000000) (dsimp := false) (disch := omega) only [go_sem, simprocAttr, *, rulesD])
        refine wpB_cond (by simp (maxSteps := 1000000) (dsimp := false) (disch := omega) only [go_sem, simprocAttr, *]; exact rfl) (fun hb => ?_) (fun hb => ?_) <;> try simp (maxSteps := 1000000) (dsimp := false) (disch := omega) only [go_sem, simprocAttr, decide_eq_true_eq, decide_eq_false_iff_not, Bool.not_eq_true, Bool.not_eq_false, Int.not_lt, Int.not_le] at hb
        · rw [mayAll_drop hb] at ha
          have hx : (l.map ruleD)[j]? = some (ruleD l[j]) := by simp [hb]
          have q1 := rule_cells l[j]
          have q2 := rule_aggQ l[j]
          have q3 := rule_noTup l[j]
          have hq := hr l[j] (List.getElem_mem hb)
          have hcall := ref_may_ok (l.take j) (by simp; omega) l[j] hq.1 hq.2
          have hst := strip_rule l[j]
          have hhs : headSize 5 (l.map ruleD) = true := by cases l <;> rfl
          have hsl := strip_rules (l.take j)
          rw [List.map_take] at hcall hsl
          generalize hw : ruleD l[j] = d at *
          clear hw
          repeat' (first | refine wpB_seq ?_ | refine wpB_regionL rfl ?_ | refine wpB_block ?_ | refine wpB_skip ?_ | refine wpB_exit ?_ | refine wpB_ret ?_ | simp (maxSteps := 1000000) (dsimp := false) (disch := omega) only [go_sem, simprocAttr, *, rulesD])
          refine wpB_regionXL (prs := []) (by kernel_rfl) rfl (by kernel_rfl) ?_
          simp (maxSteps := 1000000) (dsimp := false) (disch := omega) only [go_sem, simprocAttr, *, rulesD]
          have hst2 : stripL [.sl false ((l.map ruleD).take j), d] = some [.sl false ((l.map ruleD).take j), d] := strip2 (by simp [strip, hsl]) hst
          refine ⟨fun _ => by rw [hst2]; rfl, evB_plain bo20 rfl rfl hst2 hcall ?_⟩
          cases hm : mayZ (l.take j) l[j] with
          | true =>
            rw [hm, Bool.true_and] at ha
            simp (maxSteps := 1000000) (dsimp := false) (disch := omega) only [go_sem, simprocAttr, *, rulesD]
            refine wpB_cond (by simp (maxSteps := 1000000) (dsimp := false) (disch := omega) only [go_sem, simprocAttr, *]; exact rfl) (fun hb2 => ?_) (fun hb2 => ?_) <;> try simp (maxSteps := 1000000) (dsimp := false) (disch := omega) only [go_sem, simprocAttr, decide_eq_true_eq, decide_eq_false_iff_not, Bool.not_eq_true, Bool.not_eq_false, Int.not_lt, Int.not_le] at hb2
            repeat' (first | refine wpB_seq ?_ | refine wpB_regionL rfl ?_ | refine wpB_block ?_ | refine wpB_skip ?_ | refine wpB_exit ?_ | refine wpB_ret ?_ | simp (maxSteps := 1000000) (dsimp := false) (disch := omega) only [go_sem, simprocAttr, *, rulesD])
            refine hR _ _ ⟨j + 1, by omega, by simp (maxSteps := 1000000) (dsimp := false) (disch := omega) only [go_sem, simprocAttr, *, rulesD], by simp (maxSteps := 1000000) (dsimp := false) (disch := omega) only [go_sem, simprocAttr, *, rulesD], ha⟩ ?_
            simp (maxSteps := 1000000) (dsimp := false) (disch := omega) only [go_sem, simprocAttr, *, natOf_int]
          | false =>
            rw [hm, Bool.false_and] at ha
            rw [ha]
            simp (maxSteps := 1000000) (dsimp := false) (disch := omega) only [go_sem, simprocAttr, *, rulesD]
            refine wpB_cond (by simp (maxSteps := 1000000) (dsimp := false) (disch := omega) only [go_sem, simprocAttr, *]; exact rfl) (fun hb2 => ?_) (fun hb2 => ?_) <;> try simp (maxSteps := 1000000) (dsimp := false) (disch := omega) only [go_sem, simprocAttr, decide_eq_true_eq, decide_eq_false_iff_not, Bool.not_eq_true, Bool.not_eq_false, Int.not_lt, Int.not_le] at hb2
            repeat' (first | refine wpB_seq ?_ | refine wpB_regionL rfl ?_ | refine wpB_block ?_ | refine wpB_skip ?_ | refine wpB_exit ?_ | refine wpB_ret ?_ | simp (maxSteps := 1000000) (dsimp := false) (disch := omega) only [go_sem, simprocAttr, *, rulesD])
            try rfl
        · rw [mayAll_drop0 (by omega)] at ha
          rw [ha]
          repeat' (first | refine wpB_seq ?_ | refine wpB_regionL rfl ?_ | refine wpB_block ?_ | refine wpB_skip ?_ | refine wpB_exit ?_ | refine wpB_ret ?_ | simp (maxSteps := 1000000) (dsimp := false) (disch := omega) only [go_sem, simprocAttr, *])
          try rfl
    · have hz : rightG l = false := by simp [rightG, c2]
      rw [hz]
      repeat' (first | refine wpB_seq ?_ | refine wpB_regionL rfl ?_ | refine wpB_block ?_ | refine wpB_skip ?_ | refine wpB_exit ?_ | refine wpB_ret ?_ | simp (maxSteps := 1000000) (dsimp := false) (disch := omega) only [go_sem, simprocAttr, *, rulesD])
      refine wpB_cond (by simp (maxSteps := 1000000) (dsimp := false) (disch := omega) only [go_sem, simprocAttr, *]; exact rfl) (fun hb => ?_) (fun hb => ?_) <;> try simp (maxSteps := 1000000) (dsimp := false) (disch := omega) only [go_sem, simprocAttr, decide_eq_true_eq, decide_eq_false_iff_not, Bool.not_eq_true, Bool.not_eq_false, Int.not_lt, Int.not_le] at hb
      repeat' (first | refine wpB_seq ?_ | refine wpB_regionL rfl ?_ | refine wpB_block ?_ | refine wpB_skip ?_ | refine wpB_exit ?_ | refine wpB_ret ?_ | simp (maxSteps := 1000000) (dsimp := false) (disch := omega) only [go_sem, simprocAttr, *])
      try rfl
  · have hz : rightG l = false := by simp [rightG, c1]
    rw [hz]
    have : l = [] := by cases l with | nil => rfl | cons a b => simp at c1
    subst this
    clear hr hl c1 hz
    repeat' (first | refine wpB_seq ?_ | refine wpB_regionL rfl ?_ | refine wpB_block ?_ | refine wpB_skip ?_ | refine wpB_exit ?_ | refine wpB_ret ?_ | simp (maxSteps := 1000000) (dsimp := false) (disch := omega) only [go_sem, simprocAttr, *, rulesD])
    refine wpB_cond (by simp (maxSteps := 1000000) (dsimp := false) (disch := omega) only [go_sem, simprocAttr, *]; exact rfl) (fun hb => ?_) (fun hb => ?_) <;> try simp (maxSteps := 1000000) (dsimp := false) (disch := omega) only [go_sem, simprocAttr, decide_eq_true_eq, decide_eq_false_iff_not, Bool.not_eq_true, Bool.not_eq_false, Int.not_lt, Int.not_le] at hb
    repeat' (first | refine wpB_seq ?_ | refine wpB_regionL rfl ?_ | refine wpB_block ?_ | refine wpB_skip ?_ | refine wpB_exit ?_ | refine wpB_ret ?_ | simp (maxSteps := 1000000) (dsimp := false) (disch := omega) only [go_sem, simprocAttr, *])
    try rfl
def greatG (l : List Rule) : Bool := decide (20 < l.length) || l.any fun r => decide (100 < r.nm.length) || greatR 20 r.rx
theorem great_rules_ok (l : List Rule) : PureF Tryd.prog A 8 [rulesD l] (.bool (greatG l)) := by
  refine evF_inB (n := 28) (rs := [.tmp 2]) Tryd.func8 rfl rfl rfl rfl rfl rfl ?_
  by_cases c1 : 20 < l.length
  · have hz : greatG l = true := by simp [greatG, c1]
    rw [hz]
    repeat' (first | refine wpB_seq ?_ | refine wpB_regionL rfl ?_ | refine wpB_block ?_ | refine wpB_skip ?_ | refine wpB_exit ?_ | refine wpB_ret ?_ | simp (maxSteps := 1000000) (dsimp := false) (disch := omega) only [go_sem, simprocAttr, *, rulesD])
    refine wpB_cond (by simp (maxSteps := 1000000) (dsimp := false) (disch := omega) only [go_sem, simprocAttr, *]; exact rfl) (fun hb => ?_) (fun hb => ?_) <;> try simp (maxSteps := 1000000) (dsimp := false) (disch := omega) only [go_sem, simprocAttr, decide_eq_true_eq, decide_eq_false_iff_not, Bool.not_eq_true, Bool.not_eq_false, Int.not_lt, Int.not_le] at hb
    repeat' (first | refine wpB_seq ?_ | refine wpB_regionL rfl ?_ | refine wpB_block ?_ | refine wpB_skip ?_ | refine wpB_exit ?_ | refine wpB_ret ?_ | simp (maxSteps := 1000000) (dsimp := false) (disch := omega) only [go_sem, simprocAttr, *])
    try rfl
  · have hz : greatG l = l.any fun r => decide (100 < r.nm.length) || greatR 20 r.rx := by simp [greatG, c1]
    rw [hz]
    generalize hG : (l.any fun r => decide (100 < r.nm.length) || greatR 20 r.rx) = G
    clear hz
    repeat' (first | refine wpB_seq ?_ | refine wpB_regionL rfl ?_ | refine wpB_block ?_ | refine wpB_skip ?_ | refine wpB_exit ?_ | refine wpB_ret ?_ | simp (maxSteps := 1000000) (dsimp := false) (disch := omega) only [go_sem, simprocAttr, *, rulesD])
    refine wpB_cond (by simp (maxSteps := 1000000) (dsimp := false) (disch := omega) only [go_sem, simprocAttr, *]; exact rfl) (fun hb => ?_) (fun hb => ?_) <;> try simp (maxSteps := 1000000) (dsimp := false) (disch := omega) only [go_sem, simprocAttr, decide_eq_true_eq, decide_eq_false_iff_not, Bool.not_eq_true, Bool.not_eq_false, Int.not_lt, Int.not_le] at hb
    repeat' (first | refine wpB_seq ?_ | refine wpB_regionL rfl ?_ | refine wpB_block ?_ | refine wpB_skip ?_ | refine wpB_exit ?_ | refine wpB_ret ?_ | simp (maxSteps := 1000000) (dsimp := false) (disch := omega) only [go_sem, simprocAttr, *, rulesD])
    refine wpB_loop (fun e H => ∃ j : Nat, j ≤ l.length ∧ e 0 = rulesD l ∧ e 3 = .int .i64 j ∧ G = (l.drop j).any fun r => decide (100 < r.nm.length) || greatR 20 r.rx) (fun e H => l.length - natOf (e 3)) ?_ ?_
    · exact ⟨0, Nat.zero_le _, by simp (maxSteps := 1000000) (dsimp := false) (disch := omega) only [go_sem, simprocAttr, *, rulesD], rfl, hG.symm⟩
    · clear hG
      rintro e H ⟨j, hj, e0, e3, ha⟩ R hR
      repeat' (first | refine wpB_seq ?_ | refine wpB_regionL rfl ?_ | refine wpB_block ?_ | refine wpB_skip ?_ | refine wpB_exit ?_ | refine wpB_ret ?_ | simp (maxSteps := 1000000) (dsimp := false) (disch := omega) only [go_sem, simprocAttr, *, rulesD])
      refine wpB_cond (by simp (maxSteps := 1000000) (dsimp := false) (disch := omega) only [go_sem, simprocAttr, *]; exact rfl) (fun hb => ?_) (fun hb => ?_) <;> try simp (maxSteps := 1000000) (dsimp := false) (disch := omega) only [go_sem, simprocAttr, decide_eq_true_eq, decide_eq_false_iff_not, Bool.not_eq_true, Bool.not_eq_false, Int.not_lt, Int.not_le] at hb
      · rw [any_drop hb] at ha
        have hx : (l.map ruleD)[j]? = some (.agg [.str l[j].nm, .int .u8 l[j].rx.k, .int .u16 l[j].rx.s, .sl false (rxDs l[j].rx.kids), .bool l[j].br]) := by simp [hb, ruleD]
        have hg := great_ok 20 (by omega) l[j].rx
        have hS := strip_rx l[j].rx
        rw [rule_rx] at hg hS
        generalize l[j] = r at *
        by_cases c2 : 100 < r.nm.length
        · have hz : (decide (100 < r.nm.length) || greatR 20 r.rx) = true := by simp [c2]
          rw [hz, Bool.true_or] at ha
          rw [ha]
          repeat' (first | refine wpB_seq ?_ | refine wpB_regionL rfl ?_ | refine wpB_block ?_ | refine wpB_skip ?_ | refine wpB_exit ?_ | refine wpB_ret ?_ | simp (maxSteps := 1000000) (dsimp := false) (disch := omega) only [go_sem, simprocAttr, *, rulesD])
          refine wpB_cond (by simp (maxSteps := 1000000) (dsimp := false) (disch := omega) only [go_sem, simprocAttr, *]; exact rfl) (fun hb2 => ?_) (fun hb2 => ?_) <;> try simp (maxSteps := 1000000) (dsimp := false) (disch := omega) only [go_sem, simprocAttr, decide_eq_true_eq, decide_eq_false_iff_not, Bool.not_eq_true, Bool.not_eq_false, Int.not_lt, Int.not_le] at hb2
          repeat' (first | refine wpB_seq ?_ | refine wpB_regionL rfl ?_ | refine wpB_block ?_ | refine wpB_skip ?_ | refine wpB_exit ?_ | refine wpB_ret ?_ | simp (maxSteps := 1000000) (dsimp := false) (disch := omega) only [go_sem, simprocAttr, *])
          try rfl
        · have hz : (decide (100 < r.nm.length) || greatR 20 r.rx) = greatR 20 r.rx := by simp [c2]
          rw [hz] at ha
          clear hz
          repeat' (first | refine wpB_seq ?_ | refine wpB_regionL rfl ?_ | refine wpB_block ?_ | refine wpB_skip ?_ | refine wpB_exit ?_ | refine wpB_ret ?_ | simp (maxSteps := 1000000) (dsimp := false) (disch := omega) only [go_sem, simprocAttr, *, rulesD])
          refine evB_plain bo18 rfl rfl (strip2 hS strip_int) hg ?_
          cases hm : greatR 20 r.rx with
          | true =>
            rw [hm, Bool.true_or] at ha
            rw [ha]
            simp (maxSteps := 1000000) (dsimp := false) (disch := omega) only [go_sem, simprocAttr, *, rulesD]
            refine wpB_cond (by simp (maxSteps := 1000000) (dsimp := false) (disch := omega) only [go_sem, simprocAttr, *]; exact rfl) (fun hb2 => ?_) (fun hb2 => ?_) <;> try simp (maxSteps := 1000000) (dsimp := false) (disch := omega) only [go_sem, simprocAttr, decide_eq_true_eq, decide_eq_false_iff_not, Bool.not_eq_true, Bool.not_eq_false, Int.not_lt, Int.not_le] at hb2
            repeat' (first | refine wpB_seq ?_ | refine wpB_regionL rfl ?_ | refine wpB_block ?_ | refine wpB_skip ?_ | refine wpB_exit ?_ | refine wpB_ret ?_ | simp (maxSteps := 1000000) (dsimp := false) (disch := omega) only [go_sem, simprocAttr, *])
            try rfl
          | false =>
            rw [hm, Bool.false_or] at ha
            simp (maxSteps := 1000000) (dsimp := false) (disch := omega) only [go_sem, simprocAttr, *, rulesD]
            refine wpB_cond (by simp (maxSteps := 1000000) (dsimp := false) (disch := omega) only [go_sem, simprocAttr, *]; exact rfl) (fun hb2 => ?_) (fun hb2 => ?_) <;> try simp (maxSteps := 1000000) (dsimp := false) (disch := omega) only [go_sem, simprocAttr, decide_eq_true_eq, decide_eq_false_iff_not, Bool.not_eq_true, Bool.not_eq_false, Int.not_lt, Int.not_le] at hb2
            repeat' (first | refine wpB_seq ?_ | refine wpB_regionL rfl ?_ | refine wpB_block ?_ | refine wpB_skip ?_ | refine wpB_exit ?_ | refine wpB_ret ?_ | simp (maxSteps := 1000000) (dsimp := false) (disch := omega) only [go_sem, simprocAttr, *])
            refine hR _ _ ⟨j + 1, by omega, by simp (maxSteps := 1000000) (dsimp := false) (disch := omega) only [go_sem, simprocAttr, *, rulesD], by simp (maxSteps := 1000000) (dsimp := false) (disch := omega) only [go_sem, simprocAttr, *], ha⟩ ?_
            simp (maxSteps := 1000000) (dsimp := false) (disch := omega) only [go_sem, simprocAttr, *, natOf_int]
      · rw [any_drop0 (by omega)] at ha
        rw [ha]
        repeat' (first | refine wpB_seq ?_ | refine wpB_regionL rfl ?_ | refine wpB_block ?_ | refine wpB_skip ?_ | refine wpB_exit ?_ | refine wpB_ret ?_ | simp (maxSteps := 1000000) (dsimp := false) (disch := omega) only [go_sem, simprocAttr, *])
        try rfl
end Go.Proofs.W
end
/-
  DERIVED: THE SHELF's CONTRACTS AT THIS DUMP, IN PLAIN WORDS (tools/lay-plain.mjs out of 'TrydShelf.lean', which tools/lay-shelf.mjs wrote): THE SAME DECLARATIONS UNDER THE SAME NAMES: 'import', 'namespace', 'open', 'def', 'theorem' AND NOTHING ELSE: no command of the shelf's: FOR A HAND-IN. Each laying: the table of numbers ('.._ren') and one theorem, a field a fact of the dump's own or the kernel's comparison; each contract: ONE APPLICATION.
-/
section
namespace Go.Proofs
open Go.Shelf
def Tryd.lays146_ren : Go.Shelf.Ren := ⟨fun | 146 => 23 | 221 => 36 | 268 => 48 | 138 => 22 | 143 => 35 | 195 => 33 | 197 => 58 | 218 => 34 | 219 => 47 | 260 => 65 | 217 => 46 | 225 => 55 | 224 => 56 | 267 => 57 | 266 => 54 | 314 => 64 | n => n, fun | 9 => 9 | 31 => 48 | 3 => 3 | 4 => 4 | 0 => 0 | 105 => 81 | 21 => 21 | 5 => 5 | 46 => 79 | 119 => 90 | 139 => 93 | 138 => 92 | 146 => 87 | 51 => 86 | n => n, fun | 1 => 0 | 3 => 1 | 4 => 2 | n => n⟩
theorem Tryd.lays146 : Go.Proofs.Lays.n146 Tryd.prog Tryd.lays146_ren := {
  mixed := by kernel_rfl
  f138 := Tryd.func22.trans (congrArg some (by kernel_rfl))
  f143 := Tryd.func35.trans (congrArg some (by kernel_rfl))
  f146 := Tryd.func23.trans (congrArg some (by kernel_rfl))
  f195 := Tryd.func33.trans (congrArg some (by kernel_rfl))
  f197 := Tryd.func58.trans (congrArg some (by kernel_rfl))
  f217 := Tryd.func46.trans (congrArg some (by kernel_rfl))
  f218 := Tryd.func34.trans (congrArg some (by kernel_rfl))
  f219 := Tryd.func47.trans (congrArg some (by kernel_rfl))
  f221 := Tryd.func36.trans (congrArg some (by kernel_rfl))
  f224 := Tryd.func56.trans (congrArg some (by kernel_rfl))
  f225 := Tryd.func55.trans (congrArg some (by kernel_rfl))
  f260 := Tryd.func65.trans (congrArg some (by kernel_rfl))
  f266 := Tryd.func54.trans (congrArg some (by kernel_rfl))
  f267 := Tryd.func57.trans (congrArg some (by kernel_rfl))
  f268 := Tryd.func48.trans (congrArg some (by kernel_rfl))
  f314 := Tryd.func64.trans (congrArg some (by kernel_rfl))
  t0 := Tryd.underlying0
  a0 := Tryd.isAgg0
  z0 := Tryd.sizeOf0
  v0 := Tryd.zeroValue0
  t3 := Tryd.underlying3
  a3 := Tryd.isAgg3
  z3 := Tryd.sizeOf3
  v3 := Tryd.zeroValue3
  t4 := Tryd.underlying4
  a4 := Tryd.isAgg4
  z4 := Tryd.sizeOf4
  v4 := Tryd.zeroValue4
  t5 := Tryd.underlying5
  a5 := Tryd.isAgg5
  z5 := Tryd.sizeOf5
  v5 := Tryd.zeroValue5
  t9 := Tryd.underlying9
  a9 := Tryd.isAgg9
  z9 := Tryd.sizeOf9
  v9 := Tryd.zeroValue9
  t21 := Tryd.underlying21
  a21 := Tryd.isAgg21
  z21 := Tryd.sizeOf21
  v21 := Tryd.zeroValue21
  t31 := Tryd.underlying48
  a31 := Tryd.isAgg48
  z31 := Tryd.sizeOf48
  v31 := Tryd.zeroValue48
  t46 := Tryd.underlying79
  a46 := Tryd.isAgg79
  z46 := Tryd.sizeOf79
  v46 := Tryd.zeroValue79
  t51 := Tryd.underlying86
  a51 := Tryd.isAgg86
  z51 := Tryd.sizeOf86
  v51 := Tryd.zeroValue86
  t105 := Tryd.underlying81
  a105 := Tryd.isAgg81
  z105 := Tryd.sizeOf81
  v105 := Tryd.zeroValue81
  t119 := Tryd.underlying90
  a119 := Tryd.isAgg90
  z119 := Tryd.sizeOf90
  t138 := Tryd.underlying92
  a138 := Tryd.isAgg92
  z138 := Tryd.sizeOf92
  v138 := Tryd.zeroValue92
  t139 := Tryd.underlying93
  a139 := Tryd.isAgg93
  z139 := Tryd.sizeOf93
  v139 := Tryd.zeroValue93
  t146 := Tryd.underlying87
  a146 := Tryd.isAgg87
  z146 := Tryd.sizeOf87
  v146 := Tryd.zeroValue87
  g1 := by kernel_rfl
  g3 := by kernel_rfl
  g4 := by kernel_rfl }
open Go.RowKit Go.Lib in
/-- strings.Split. (LAID: no walk: one application.) -/
theorem Tryd.strings_Split (s sep : ByteArray) (m : Int) (w : World) (hs : s.size < 4294967281) (hm : w.cell? ⟨0, 0, none⟩ = some (.int .i64 m)) (h1 : 1 ≤ sep.size) :
    Calls Tryd.prog 23 #[.string s, .string sep] w fun e w' =>
      e = .returned (.slice (some ⟨w.heap.size, 0, none⟩) (Lib.countB s sep + 1) (Lib.countB s sep + 1)) ∧ w' = w.alloc (.cells ((Lib.splitB sep 0 (Lib.countB s sep) s).map Value.string).toArray 9) := Any.strings_Split Tryd.lays146 (by kernel_rfl) s sep m w hs hm h1
def Tryd.lays138_ren : Go.Shelf.Ren := ⟨fun | 138 => 22 | 195 => 33 | 218 => 34 | 143 => 35 | 219 => 47 | 217 => 46 | 225 => 55 | 224 => 56 | 267 => 57 | 266 => 54 | 314 => 64 | n => n, fun | 9 => 9 | 3 => 3 | 4 => 4 | 5 => 5 | 0 => 0 | 46 => 79 | 146 => 87 | 51 => 86 | n => n, fun | 1 => 0 | n => n⟩
theorem Tryd.lays138 : Go.Proofs.Lays.n138 Tryd.prog Tryd.lays138_ren := {
  mixed := by kernel_rfl
  f138 := Tryd.func22.trans (congrArg some (by kernel_rfl))
  f143 := Tryd.func35.trans (congrArg some (by kernel_rfl))
  f195 := Tryd.func33.trans (congrArg some (by kernel_rfl))
  f217 := Tryd.func46.trans (congrArg some (by kernel_rfl))
  f218 := Tryd.func34.trans (congrArg some (by kernel_rfl))
  f219 := Tryd.func47.trans (congrArg some (by kernel_rfl))
  f224 := Tryd.func56.trans (congrArg some (by kernel_rfl))
  f225 := Tryd.func55.trans (congrArg some (by kernel_rfl))
  f266 := Tryd.func54.trans (congrArg some (by kernel_rfl))
  f267 := Tryd.func57.trans (congrArg some (by kernel_rfl))
  f314 := Tryd.func64.trans (congrArg some (by kernel_rfl))
  t0 := Tryd.underlying0
  a0 := Tryd.isAgg0
  z0 := Tryd.sizeOf0
  v0 := Tryd.zeroValue0
  t3 := Tryd.underlying3
  a3 := Tryd.isAgg3
  z3 := Tryd.sizeOf3
  v3 := Tryd.zeroValue3
  t4 := Tryd.underlying4
  a4 := Tryd.isAgg4
  z4 := Tryd.sizeOf4
  v4 := Tryd.zeroValue4
  t5 := Tryd.underlying5
  a5 := Tryd.isAgg5
  z5 := Tryd.sizeOf5
  v5 := Tryd.zeroValue5
  t9 := Tryd.underlying9
  a9 := Tryd.isAgg9
  z9 := Tryd.sizeOf9
  v9 := Tryd.zeroValue9
  t46 := Tryd.underlying79
  a46 := Tryd.isAgg79
  z46 := Tryd.sizeOf79
  v46 := Tryd.zeroValue79
  t51 := Tryd.underlying86
  a51 := Tryd.isAgg86
  z51 := Tryd.sizeOf86
  v51 := Tryd.zeroValue86
  t146 := Tryd.underlying87
  a146 := Tryd.isAgg87
  z146 := Tryd.sizeOf87
  v146 := Tryd.zeroValue87
  g1 := by kernel_rfl }
open Go.RowKit Go.Lib in
/-- strings.Count at whatever sep that is not empty: the two roads under one statement. (LAID: no walk: one application.) -/
theorem Tryd.strings_Count_any (s sep : ByteArray) (m : Int) (w : World) (hs : s.size < 4294967281) (hm : w.cell? ⟨0, 0, none⟩ = some (.int .i64 m)) (h1 : 1 ≤ sep.size) :
    Calls Tryd.prog 22 #[.string s, .string sep] w fun e w' => e = .returned (.int .i64 (Lib.countB s sep)) ∧ w' = w := Any.strings_Count_any Tryd.lays138 s sep m w hs hm h1
def Tryd.lays145_ren : Go.Shelf.Ren := ⟨fun | 145 => 37 | 220 => 49 | 219 => 47 | 217 => 46 | 225 => 55 | 224 => 56 | 267 => 57 | 266 => 54 | 314 => 64 | n => n, fun | 9 => 9 | 4 => 4 | 59 => 59 | 3 => 3 | 5 => 5 | 46 => 79 | 146 => 87 | 51 => 86 | n => n, fun | 1 => 0 | n => n⟩
theorem Tryd.lays145 : Go.Proofs.Lays.n145 Tryd.prog Tryd.lays145_ren := {
  mixed := by kernel_rfl
  f145 := Tryd.func37.trans (congrArg some (by kernel_rfl))
  f217 := Tryd.func46.trans (congrArg some (by kernel_rfl))
  f219 := Tryd.func47.trans (congrArg some (by kernel_rfl))
  f220 := Tryd.func49.trans (congrArg some (by kernel_rfl))
  f224 := Tryd.func56.trans (congrArg some (by kernel_rfl))
  f225 := Tryd.func55.trans (congrArg some (by kernel_rfl))
  f266 := Tryd.func54.trans (congrArg some (by kernel_rfl))
  f267 := Tryd.func57.trans (congrArg some (by kernel_rfl))
  f314 := Tryd.func64.trans (congrArg some (by kernel_rfl))
  t3 := Tryd.underlying3
  a3 := Tryd.isAgg3
  z3 := Tryd.sizeOf3
  v3 := Tryd.zeroValue3
  t4 := Tryd.underlying4
  a4 := Tryd.isAgg4
  z4 := Tryd.sizeOf4
  v4 := Tryd.zeroValue4
  t5 := Tryd.underlying5
  a5 := Tryd.isAgg5
  z5 := Tryd.sizeOf5
  v5 := Tryd.zeroValue5
  t9 := Tryd.underlying9
  a9 := Tryd.isAgg9
  z9 := Tryd.sizeOf9
  v9 := Tryd.zeroValue9
  t46 := Tryd.underlying79
  a46 := Tryd.isAgg79
  z46 := Tryd.sizeOf79
  v46 := Tryd.zeroValue79
  t51 := Tryd.underlying86
  a51 := Tryd.isAgg86
  z51 := Tryd.sizeOf86
  v51 := Tryd.zeroValue86
  t59 := Tryd.underlying59
  a59 := Tryd.isAgg59
  z59 := Tryd.sizeOf59
  v59 := Tryd.zeroValue59
  t146 := Tryd.underlying87
  a146 := Tryd.isAgg87
  z146 := Tryd.sizeOf87
  v146 := Tryd.zeroValue87
  g1 := by kernel_rfl }
open Go.RowKit Go.Lib in
/-- strings.Cut: "Cut slices s around the first instance of sep, returning the text before and after sep. The found result reports whether sep appears in s. If sep does not appear in s, cut returns s, "", false.": IT RETURNS 'Lib.cut s sep'; the world is as it was but for the count of draws. (LAID: no walk: one application.) -/
theorem Tryd.strings_Cut (s sep : ByteArray) (m : Int) (w : World) (hs : s.size < 4294967281) (hm : w.cell? ⟨0, 0, none⟩ = some (.int .i64 m)) :
    Calls Tryd.prog 37 #[.string s, .string sep] w fun e w' => e = .returned (.tuple #[.string ⟨(Lib.cut s.data.toList sep.data.toList).1.toArray⟩, .string ⟨(Lib.cut s.data.toList sep.data.toList).2.1.toArray⟩, .bool (Lib.cut s.data.toList sep.data.toList).2.2]) ∧ ∃ n, w' = w.drewN n := Any.strings_Cut Tryd.lays145 s sep m w hs hm
def Tryd.lays104_ren : Go.Shelf.Ren := ⟨fun | 104 => 38 | 211 => 50 | 207 => 59 | n => n, fun | 9 => 9 | 4 => 4 | 24 => 61 | 3 => 3 | n => n, fun | n => n⟩
theorem Tryd.lays104 : Go.Proofs.Lays.n104 Tryd.prog Tryd.lays104_ren := {
  mixed := by kernel_rfl
  f104 := Tryd.func38.trans (congrArg some (by kernel_rfl))
  f207 := Tryd.func59.trans (congrArg some (by kernel_rfl))
  f211 := Tryd.func50.trans (congrArg some (by kernel_rfl))
  t3 := Tryd.underlying3
  a3 := Tryd.isAgg3
  z3 := Tryd.sizeOf3
  v3 := Tryd.zeroValue3
  t4 := Tryd.underlying4
  a4 := Tryd.isAgg4
  z4 := Tryd.sizeOf4
  v4 := Tryd.zeroValue4
  t9 := Tryd.underlying9
  a9 := Tryd.isAgg9
  z9 := Tryd.sizeOf9
  v9 := Tryd.zeroValue9
  t24 := Tryd.underlying61
  a24 := Tryd.isAgg61
  z24 := Tryd.sizeOf61
  v24 := Tryd.zeroValue61 }
open Go.RowKit in
/-- strings.CutSuffix: "CutSuffix returns s without the provided ending suffix string and reports whether it found the suffix. If s doesn't end with suffix, CutSuffix returns s, false. If suffix is the empty string, CutSuffix returns s, true.": IT RETURNS '(Lib.trimSuffix s p, Lib.hasSuffix s p)'; the world is as it was. (LAID: no walk: one application.) -/
theorem Tryd.strings_CutSuffix (s p : ByteArray) (w : World) (hs : s.size ≤ 9223372036854775807) :
    Calls Tryd.prog 38 #[.string s, .string p] w fun e w' => e = .returned (.tuple #[.string ⟨(Lib.trimSuffix s.data.toList p.data.toList).toArray⟩, .bool (Lib.hasSuffix s.data.toList p.data.toList)]) ∧ w' = w := Any.strings_CutSuffix Tryd.lays104 s p w hs
def Tryd.lays137_ren : Go.Shelf.Ren := ⟨fun | 137 => 32 | 217 => 46 | 266 => 54 | n => n, fun | 9 => 9 | 5 => 5 | 3 => 3 | n => n, fun | n => n⟩
theorem Tryd.lays137 : Go.Proofs.Lays.n137 Tryd.prog Tryd.lays137_ren := {
  mixed := by kernel_rfl
  f137 := Tryd.func32.trans (congrArg some (by kernel_rfl))
  f217 := Tryd.func46.trans (congrArg some (by kernel_rfl))
  f266 := Tryd.func54.trans (congrArg some (by kernel_rfl))
  t3 := Tryd.underlying3
  a3 := Tryd.isAgg3
  z3 := Tryd.sizeOf3
  v3 := Tryd.zeroValue3
  t5 := Tryd.underlying5
  a5 := Tryd.isAgg5
  z5 := Tryd.sizeOf5
  v5 := Tryd.zeroValue5
  t9 := Tryd.underlying9
  a9 := Tryd.isAgg9
  z9 := Tryd.sizeOf9
  v9 := Tryd.zeroValue9 }
open Go.RowKit in
/-- strings.IndexByte: "IndexByte returns the index of the first instance of c in s, or -1 if c is not present in s.": IT RETURNS 'Lib.indexByte s c'; the world is as it was. (LAID: no walk: one application.) -/
theorem Tryd.strings_IndexByte (s : ByteArray) (c : Int) (w : World) :
    Calls Tryd.prog 32 #[.string s, .int .u8 c] w fun e w' => e = .returned (.int .i64 (Lib.indexByte s.data.toList c.toNat.toUInt8)) ∧ w' = w := Any.strings_IndexByte Tryd.lays137 s c w
end Go.Proofs
end
/- The chapter on rules: the functions that are taken as they are. -/
section
set_option maxHeartbeats 4000000
set_option linter.unusedVariables false
set_option linter.unusedSimpArgs false
namespace Go.Proofs.W
open Go Vm Go.Proofs.Zs05

theorem primA [Base] (hB : ∃ m, Base.B 0 0 = some (.int .i64 m)) : PrimOk Tryd.prog A := by
  intro f p h args H r hr ρ im w vs hR hvs
  simp only [A] at h
  split at h
  · rename_i e; subst e; cases h
    exact pSplit_at (g := 0) hB (fun s sep m w h1 h2 h3 => Tryd.strings_Split s sep m w h1 h2 h3) args H r hr ρ im w vs hR hvs
  · split at h
    · rename_i e; subst e; cases h
      exact pCount_at (g := 0) hB (fun s sep m w h1 h2 h3 => Tryd.strings_Count_any s sep m w h1 h2 h3) args H r hr ρ im w vs hR hvs
    · split at h
      · rename_i e; subst e; cases h
        exact pCut_at (g := 0) hB (fun s sep m w h1 h2 => Tryd.strings_Cut s sep m w h1 h2) args H r hr ρ im w vs hR hvs
      · split at h
        · rename_i e; subst e; cases h
          exact pCutSuffix_at (fun s p w h1 => Tryd.strings_CutSuffix s p w h1) args H r hr ρ im w vs hR hvs
        · split at h
          · rename_i e; subst e; cases h
            exact pIndexByte_at (fun s c w => Tryd.strings_IndexByte s c w) args H r hr ρ im w vs hR hvs
          · cases h
end Go.Proofs.W
end
/- From a law's runs to the row that lists variables. -/
section
set_option linter.unusedVariables false
namespace Vm
open Go
section
variable {P : Program}
theorem typed_str {t : TypeId} {ds : List D} (hu : P.underlying t = some .string) (h : Typed P t ds) : ∃ s, ds = [.str s] ∧ s.length ≤ maxLen := by
  cases h with
  | bool _ b h => rw [hu] at h; cases h
  | int _ k1 n h hn => rw [hu] at h; cases h
  | str _ s h hs => exact ⟨s, rfl, hs⟩
  | slice _ e xs h hl hx => rw [hu] at h; cases h
  | struct _ fs ds h hf => rw [hu] at h; cases h
  | array _ e n ds h hf => rw [hu] at h; cases h
theorem typed_bool {t : TypeId} {ds : List D} (hu : P.underlying t = some .bool) (h : Typed P t ds) : ∃ b, ds = [.bool b] := by
  cases h with
  | bool _ b h => exact ⟨b, rfl⟩
  | int _ k1 n h hn => rw [hu] at h; cases h
  | str _ s h hs => rw [hu] at h; cases h
  | slice _ e xs h hl hx => rw [hu] at h; cases h
  | struct _ fs ds h hf => rw [hu] at h; cases h
  | array _ e n ds h hf => rw [hu] at h; cases h
theorem typedF_cons {t : TypeId} {ts : List TypeId} {ds : List D} (h : TypedF P (t :: ts) ds) : ∃ a b, ds = a ++ b ∧ Typed P t a ∧ TypedF P ts b := by
  cases h with
  | cons _ _ a b h hr => exact ⟨a, b, rfl, h, hr⟩
theorem typedE_one {e : TypeId} {xs : List D} (ha : aggT P e = false) (h : TypedE P e xs) {α : Type} (f : α → D) (hf : ∀ x, Typed P e [x] → ∃ a, x = f a) : ∃ l : List α, xs = l.map f := by
  induction xs with
  | nil => exact ⟨[], rfl⟩
  | cons x xs ih =>
    cases h with
    | agg _ cs _ ha' h hr => rw [ha] at ha'; cases ha'
    | one _ _ _ ha' h hr =>
      obtain ⟨l, hl⟩ := ih hr
      obtain ⟨a, hb⟩ := hf x h
      exact ⟨a :: l, by rw [List.map_cons, ← hl, hb]⟩
/-- as 'typedE_agg', for what lies within: each element is less than the list -/
theorem typedE_aggI {e : TypeId} {xs : List D} (ha : aggT P e = true) (h : TypedE P e xs) {α : Type} (f : α → D) (q : α → Prop) (hf : ∀ cs, SizeOf.sizeOf cs < SizeOf.sizeOf xs → Typed P e cs → ∃ a, D.agg cs = f a ∧ q a) : ∃ l : List α, xs = l.map f ∧ ∀ a ∈ l, q a := by
  induction xs with
  | nil => exact ⟨[], rfl, by simp⟩
  | cons x xs ih =>
    cases h with
    | agg _ cs _ ha' h hr =>
      obtain ⟨l, hl, hq⟩ := ih hr (fun cs hc => hf cs (by simp only [List.cons.sizeOf_spec]; omega))
      obtain ⟨a, hb, hqa⟩ := hf cs (by simp only [List.cons.sizeOf_spec, D.agg.sizeOf_spec]; omega) h
      refine ⟨a :: l, by rw [List.map_cons, ← hl, hb], fun y hy => ?_⟩
      rcases List.mem_cons.1 hy with rfl | hy
      · exact hqa
      · exact hq y hy
    | one _ _ _ ha' h hr => rw [ha] at ha'; cases ha'
theorem typedF_nil' {ds : List D} (h : TypedF P [] ds) : ds = [] := by cases h; rfl
theorem typedA_str {t : TypeId} {ts : List TypeId} {ds : List D} (hu : P.underlying t = some .string) (ha : aggT P t = false) (h : TypedA P (t :: ts) ds) : ∃ s r, ds = .str s :: r ∧ s.length ≤ maxLen ∧ TypedA P ts r := by
  obtain ⟨d, r, rfl, h1, h2⟩ := typedA_one ha h
  obtain ⟨s, hs, hl⟩ := typed_str hu h1
  cases hs
  exact ⟨s, r, rfl, hl, h2⟩
theorem typedA_int {t : TypeId} {k : IntKind} {ts : List TypeId} {ds : List D} (hu : P.underlying t = some (.int k)) (ha : aggT P t = false) (h : TypedA P (t :: ts) ds) : ∃ n r, ds = .int k n :: r ∧ (Lit.int k n).wf = true ∧ TypedA P ts r := by
  obtain ⟨d, r, rfl, h1, h2⟩ := typedA_one ha h
  obtain ⟨s, hs, hl⟩ := typed_int hu h1
  cases hs
  exact ⟨s, r, rfl, hl, h2⟩
theorem typedA_slice {t e : TypeId} {ts : List TypeId} {ds : List D} (hu : P.underlying t = some (.slice e)) (ha : aggT P t = false) (h : TypedA P (t :: ts) ds) : ∃ xs r, ds = .sl false xs :: r ∧ xs.length ≤ maxLen ∧ TypedE P e xs ∧ TypedA P ts r := by
  obtain ⟨d, r, rfl, h1, h2⟩ := typedA_one ha h
  obtain ⟨s, hs, hl, hx⟩ := typed_slice hu h1
  cases hs
  exact ⟨s, r, rfl, hl, hx, h2⟩
theorem typedE_ints {e : TypeId} {k : IntKind} {xs : List D} (hu : P.underlying e = some (.int k)) (ha : aggT P e = false) (h : TypedE P e xs) : ∃ l : List Int, xs = l.map (.int k) :=
  typedE_one ha h _ fun x hx => by
    obtain ⟨n, hn, -⟩ := typed_int hu hx
    cases hn
    exact ⟨n, rfl⟩
end

/-- the row's contract, where it lists variables and a function reads one of the library's own -/
theorem law_lifted {C : Checked} {os : Os} {f : FuncId} {fn : Func} {s : ChangeSpec} {H : Type} {enc : TypeId × Value → H} {conds : List PathCond} {laid : List (String × DataW Unit)} {A : Ann} {S : List TypeId} {tb : TypeId}
    (started : os.Started) (own : ownKnob C.prog.godebug = none) (noInit : C.prog.inits.idxOf? f = none) (hfn : C.prog.funcs[f]? = some fn)
    (witness : ∃ (w : World) (tape : Tape) (i : Input), w.os = os ∧ (w.forCall tape i).Shaped C.prog ∧ i.vars = [] ∧ Input.okWide C.prog (w.forCall tape i) .any w.heap.size f i ∧
      ((s.pre enc C.prog fn conds false (w.forCall tape i).memory i.args ∧ laidMetH C.prog laid (w.forCall tape i).memory) ∧ sizedMet enc C.prog fn (OpenSpec.ofChange s) false (w.forCall tape i).memory i.args) ∧ ({} : Assume).holds C.prog (lone (Frame.enter C.prog f i.args .normal) [] (w.forCall tape i)))
    (hvars : s.vars = []) (hl : laidOutB C.prog = true)
    (hts : (fn.params.toList.all fun t => C.prog.readableRec t && decide (t < C.prog.types.size)) = true) (hS : plainS C.prog S = true) (hpl : (fn.params.toList.all fun t => S.contains t) = true)
    (hbod : bodied C.prog f = true) (hres : fn.resultTypes = #[tb]) (htb : C.prog.underlying tb = some .bool)
    (hs : ∀ ds : List (DataW H), ds.length = fn.params.size → (s.fn H ds).results = [.lit (.bool true)] ∧ (s.fn H ds).args = ds ∧ (s.fn H ds).vars = [])
    (hprim : ∀ W : World, W.ShapedOpen C.prog → @PrimOk ⟨im0 W⟩ C.prog A)
    (hrun : ∀ Ds, TypedA C.prog fn.params.toList Ds → ∃ k H', runF C.prog A k f Ds [] = some (.ok (.bool true) H')) :
    ReturnsInHanded {} C os f .any (fun w args => (s.pre enc C.prog fn conds false w args ∧ laidMetH C.prog laid w) ∧ sizedMet enc C.prog fn (OpenSpec.ofChange s) false w args) (s.post enc C.prog fn false true false false) := by
  refine returnsInHanded_of_calls own started noInit witness ?_
  intro w tape i _ hsh _ hok hpre hholds
  obtain ⟨_, _, _, fn', hfn', _, _, _, _, hval⟩ := hok
  have e : fn' = fn := Option.some.inj (hfn'.symm.trans hfn)
  subst e
  obtain ⟨⟨⟨ds, gs, before, hw, hc⟩, hx⟩, hz⟩ := hpre
  have hw' := DataW.Whole.of_heap (w' := w.forCall tape i) (by rfl) hw
  have hts' : ∀ t ∈ fn'.params.toList, C.prog.readableRec t = true ∧ t < C.prog.types.size := fun t ht => by
    have h2 : C.prog.readableRec t = true ∧ decide (t < C.prog.types.size) = true := by simpa only [Bool.and_eq_true] using List.all_eq_true.1 hts t ht
    exact ⟨h2.1, of_decide_eq_true h2.2⟩
  refine (law_contract hvars hl hts' hS hpl hbod hres htb hs hrun (w.forCall tape i) w.heap.size i.args ds gs before hval hw' (hprim _ hsh)).mono fun e W' ⟨v, he, hp⟩ => ?_
  subst he
  exact ChangeSpec.post_blind hp
end Vm
end
/- The chapter on rules: what typed data are; the rows' other parts. -/
section
set_option maxHeartbeats 4000000
set_option linter.unusedVariables false
set_option linter.unusedSimpArgs false
namespace Go.Proofs.W
open Go Vm Go.Proofs.Zs05

theorem ftRx : fieldTs Tryd.prog 40 = some [5, 37, 38] := by kernel_rfl
theorem ftRule : fieldTs Tryd.prog 42 = some [9, 40, 4] := by kernel_rfl
theorem aggRx : aggT Tryd.prog 40 = true := by kernel_rfl
theorem aggRule : aggT Tryd.prog 42 = true := by kernel_rfl
mutual
def tyR : Rx → Prop
  | .mk k s l => 0 ≤ k ∧ k < 256 ∧ 0 ≤ s ∧ s < 65536 ∧ tyL l
def tyL : List Rx → Prop
  | [] => True
  | r :: l => tyR r ∧ tyL l
end
theorem tyL_of : ∀ {l : List Rx}, (∀ r ∈ l, tyR r) → tyL l
  | [], _ => trivial
  | r :: l, h => ⟨h r (by simp), tyL_of fun x hx => h x (by simp [hx])⟩
theorem tyL_get : ∀ {l : List Rx}, tyL l → ∀ r ∈ l, tyR r
  | r :: l, h, x, hx => by
    rcases List.mem_cons.1 hx with rfl | hx
    · exact h.1
    · exact tyL_get h.2 x hx
theorem okL_of : ∀ {l : List Rx}, (∀ r ∈ l, okR r) → okL l
  | [], _ => trivial
  | r :: l, h => ⟨h r (by simp), okL_of fun x hx => h x (by simp [hx])⟩
theorem ok_of_great : ∀ (m : Nat) (r : Rx), tyR r → greatR m r = false → okR r := by
  intro m
  induction m with
  | zero => rintro ⟨k, s, l⟩ _ h; simp [greatR] at h
  | succ m ih =>
    rintro ⟨k, s, l⟩ ⟨h1, h2, h3, h4, h5⟩ h
    simp only [greatR, Bool.or_eq_false_iff, decide_eq_false_iff_not] at h
    exact ⟨h1, h2, h3, h4, by omega, okL_of fun r hr => ih r (tyL_get h5 r hr) (by simpa using List.any_eq_false.1 h.2 r hr)⟩
theorem wf_u8 {n : Int} (h : (Lit.int .u8 n).wf = true) : 0 ≤ n ∧ n < 256 := by simp [Lit.wf, IntKind.min, IntKind.max, IntKind.signed, IntKind.bits] at h; omega
theorem wf_u16 {n : Int} (h : (Lit.int .u16 n).wf = true) : 0 ≤ n ∧ n < 65536 := by simp [Lit.wf, IntKind.min, IntKind.max, IntKind.signed, IntKind.bits] at h; omega
theorem rx_of_typed : ∀ (n : Nat) (cs : List D), SizeOf.sizeOf cs < n → Typed Tryd.prog 40 cs → ∃ r : Rx, D.agg cs = rxD r ∧ tyR r := by
  intro n
  induction n with
  | zero => intro cs h; omega
  | succ n ih =>
    intro cs hn h
    have hf0 := typed_fields ftRx h
    obtain ⟨a, b, rfl, ha, hf1⟩ := typedF_cons hf0
    obtain ⟨k, rfl, hk⟩ := typed_int un5 ha
    obtain ⟨a, b2, rfl, ha, hf2⟩ := typedF_cons hf1
    obtain ⟨s, rfl, hs⟩ := typed_int un37 ha
    obtain ⟨a, b, rfl, ha, hf3⟩ := typedF_cons hf2
    obtain ⟨xs, rfl, hl, hx⟩ := typed_slice un38 ha
    cases typedF_nil hf3
    simp only [List.cons_append, List.nil_append, List.append_nil, List.cons.sizeOf_spec, D.sl.sizeOf_spec] at hn
    obtain ⟨l, rfl, hq⟩ := typedE_aggI aggRx hx rxD tyR fun cs hc ht => ih cs (by omega) ht
    refine ⟨.mk k s l, by rw [rx_mk, rxDs_map]; rfl, (wf_u8 hk).1, (wf_u8 hk).2, (wf_u16 hs).1, (wf_u16 hs).2, tyL_of hq⟩
theorem rules_of_typed {xs : List D} (h : TypedE Tryd.prog 42 xs) : ∃ l : List Rule, xs = l.map ruleD ∧ ∀ r ∈ l, tyR r.rx := by
  refine typedE_aggI aggRule h ruleD _ fun cs _ hc => ?_
  have hf0 := typed_fields ftRule hc
  obtain ⟨a, b, rfl, ha, hf1⟩ := typedF_cons hf0
  obtain ⟨nm, rfl, hn⟩ := typed_str un9 ha
  obtain ⟨a, b, rfl, ha, hf2⟩ := typedF_cons hf1
  obtain ⟨r, hr, ho⟩ := rx_of_typed _ a (Nat.lt_succ_self _) ha
  obtain ⟨c, b, rfl, hb, hf3⟩ := typedF_cons hf2
  obtain ⟨br, rfl⟩ := typed_bool un4 hb
  cases typedF_nil hf3
  refine ⟨⟨nm, r, br⟩, ?_, ho⟩
  have : a = [.int .u8 r.k, .int .u16 r.s, .sl false (rxDs r.kids)] := by cases r; exact D.agg.inj hr
  subst this
  rfl
end Go.Proofs.W
end
/- The law on whether a grammar is right. -/
section
set_option maxHeartbeats 4000000
set_option linter.unusedVariables false
set_option linter.unusedSimpArgs false
namespace Go.Proofs.W
open Go Vm Go.Proofs.Zs05

theorem alive_ok : PureF Tryd.prog A 7 [] (.bool true) := okTrue_run alive_run
theorem great_small {l : List Rule} (hg : greatG l = false) (ht : ∀ r ∈ l, tyR r.rx) : l.length ≤ 20 ∧ ∀ r ∈ l, okR r.rx ∧ r.nm.length ≤ 100 := by
  simp only [greatG, Bool.or_eq_false_iff, decide_eq_false_iff_not] at hg
  refine ⟨by omega, fun r hr => ?_⟩
  have := List.any_eq_false.1 hg.2 r hr
  simp only [Bool.or_eq_true, decide_eq_true_eq, not_or, Bool.not_eq_true] at this
  exact ⟨ok_of_great 20 r.rx (ht r hr) this.2, by omega⟩
theorem eqD_b (a b : Bool) : eqD Tryd.prog 4 (.bool a) (.bool b) = some (a == b) := by cases a <;> cases b <;> kernel_rfl
attribute [go_sem] eqD_b
theorem strip_g (l : List Rule) : stripL [rulesD l] = some [rulesD l] := strip1 (by simp [rulesD, strip, strip_rules])
theorem right_law (l : List Rule) (ht : ∀ r ∈ l, tyR r.rx) : Yes 3 [rulesD l] := by
  have hs := strip_g l
  refine evF_inB (n := 12) (rs := [.tmp 2]) Tryd.func3 rfl rfl rfl rfl rfl rfl ?_
  repeat' (first | refine wpB_seq ?_ | refine wpB_regionL rfl ?_ | refine wpB_block ?_ | refine wpB_skip ?_ | refine wpB_exit ?_ | refine wpB_ret ?_ | simp (maxSteps := 1000000) (dsimp := false) (disch := omega) only [go_sem, simprocAttr, *])
  refine evB_plain bo7 rfl rfl rfl alive_ok ?_
  simp (maxSteps := 1000000) (dsimp := false) (disch := omega) only [go_sem, simprocAttr, *]
  refine wpB_cond (by simp (maxSteps := 1000000) (dsimp := false) (disch := omega) only [go_sem, simprocAttr, *]; exact rfl) (fun hb => ?_) (fun hb => ?_) <;> try simp (maxSteps := 1000000) (dsimp := false) (disch := omega) only [go_sem, simprocAttr, decide_eq_true_eq, decide_eq_false_iff_not, Bool.not_eq_true, Bool.not_eq_false, Int.not_lt, Int.not_le] at hb
  repeat' (first | refine wpB_seq ?_ | refine wpB_regionL rfl ?_ | refine wpB_block ?_ | refine wpB_skip ?_ | refine wpB_exit ?_ | refine wpB_ret ?_ | simp (maxSteps := 1000000) (dsimp := false) (disch := omega) only [go_sem, simprocAttr, *])
  refine evB_plain bo8 rfl rfl hs (great_rules_ok l) ?_
  cases hg : greatG l with
  | true => simp (maxSteps := 1000000) (dsimp := false) (disch := omega) only [go_sem, simprocAttr, *]; refine wpB_cond (by simp (maxSteps := 1000000) (dsimp := false) (disch := omega) only [go_sem, simprocAttr, *]; exact rfl) (fun hb2 => ?_) (fun hb2 => ?_) <;> try simp (maxSteps := 1000000) (dsimp := false) (disch := omega) only [go_sem, simprocAttr, decide_eq_true_eq, decide_eq_false_iff_not, Bool.not_eq_true, Bool.not_eq_false, Int.not_lt, Int.not_le] at hb2; repeat' (first | refine wpB_seq ?_ | refine wpB_regionL rfl ?_ | refine wpB_block ?_ | refine wpB_skip ?_ | refine wpB_exit ?_ | refine wpB_ret ?_ | simp (maxSteps := 1000000) (dsimp := false) (disch := omega) only [go_sem, simprocAttr, *]); try rfl
  | false =>
    obtain ⟨h1, h2⟩ := great_small hg ht
    simp (maxSteps := 1000000) (dsimp := false) (disch := omega) only [go_sem, simprocAttr, *]
    refine wpB_cond (by simp (maxSteps := 1000000) (dsimp := false) (disch := omega) only [go_sem, simprocAttr, *]; exact rfl) (fun hb2 => ?_) (fun hb2 => ?_) <;> try simp (maxSteps := 1000000) (dsimp := false) (disch := omega) only [go_sem, simprocAttr, decide_eq_true_eq, decide_eq_false_iff_not, Bool.not_eq_true, Bool.not_eq_false, Int.not_lt, Int.not_le] at hb2
    repeat' (first | refine wpB_seq ?_ | refine wpB_regionL rfl ?_ | refine wpB_block ?_ | refine wpB_skip ?_ | refine wpB_exit ?_ | refine wpB_ret ?_ | simp (maxSteps := 1000000) (dsimp := false) (disch := omega) only [go_sem, simprocAttr, *])
    have h2' := fun r hr => (⟨(h2 r hr).1, Nat.le_trans (h2 r hr).2 (by omega)⟩ : okR r.rx ∧ r.nm.length ≤ 1000000)
    refine evB_plain bo9 rfl rfl hs (right_rules_ok l (by omega) h2') ?_
    simp (maxSteps := 1000000) (dsimp := false) (disch := omega) only [go_sem, simprocAttr, *]
    refine evB_plain bo10 rfl rfl hs (ref_right_ok l (by omega) h2') ?_
    cases rightG l with
    | true => simp (maxSteps := 1000000) (dsimp := false) (disch := omega) only [go_sem, simprocAttr, *]; repeat' (first | refine wpB_seq ?_ | refine wpB_regionL rfl ?_ | refine wpB_block ?_ | refine wpB_skip ?_ | refine wpB_exit ?_ | refine wpB_ret ?_ | simp (maxSteps := 1000000) (dsimp := false) (disch := omega) only [go_sem, simprocAttr, *]); try rfl
    | false => simp (maxSteps := 1000000) (dsimp := false) (disch := omega) only [go_sem, simprocAttr, *]; repeat' (first | refine wpB_seq ?_ | refine wpB_regionL rfl ?_ | refine wpB_block ?_ | refine wpB_skip ?_ | refine wpB_exit ?_ | refine wpB_ret ?_ | simp (maxSteps := 1000000) (dsimp := false) (disch := omega) only [go_sem, simprocAttr, *]); try rfl
end Go.Proofs.W
end
/- The law on letters. -/
section
set_option maxHeartbeats 4000000
set_option linter.unusedVariables false
set_option linter.unusedSimpArgs false
namespace Go.Proofs.W
open Go Vm Go.Proofs.Zs05

theorem ints_ok (a b : List Int) (ha : a.length ≤ 100000) : PureF Tryd.prog A 16 [isD a, isD b] (.bool (a == b)) := by
  refine evF_inB (n := 26) (rs := [.tmp 4]) Tryd.func16 rfl rfl rfl rfl rfl rfl ?_
  by_cases hab : a.length = b.length
  · have hz : (a == b) = (a.drop 0 == b.drop 0) := rfl
    rw [hz]
    generalize hG : (a.drop 0 == b.drop 0) = G
    clear hz
    repeat' (first | refine wpB_seq ?_ | refine wpB_regionL rfl ?_ | refine wpB_block ?_ | refine wpB_skip ?_ | refine wpB_exit ?_ | refine wpB_ret ?_ | simp (maxSteps := 1000000) (dsimp := false) (disch := omega) only [go_sem, simprocAttr, *, isD])
    refine wpB_cond (by simp (maxSteps := 1000000) (dsimp := false) (disch := omega) only [go_sem, simprocAttr, *]; exact rfl) (fun hb => ?_) (fun hb => ?_) <;> try simp (maxSteps := 1000000) (dsimp := false) (disch := omega) only [go_sem, simprocAttr, decide_eq_true_eq, decide_eq_false_iff_not, Bool.not_eq_true, Bool.not_eq_false, Int.not_lt, Int.not_le] at hb
    repeat' (first | refine wpB_seq ?_ | refine wpB_regionL rfl ?_ | refine wpB_block ?_ | refine wpB_skip ?_ | refine wpB_exit ?_ | refine wpB_ret ?_ | simp (maxSteps := 1000000) (dsimp := false) (disch := omega) only [go_sem, simprocAttr, *])
    refine wpB_loop (fun e H => ∃ (j : Nat), j ≤ a.length ∧ e 0 = isD a ∧ e 1 = isD b ∧ e 5 = .int .i64 j ∧ G = (a.drop j == b.drop j)) (fun e H => a.length - natOf (e 5)) ?_ ?_
    · exact ⟨0, Nat.zero_le _, by simp (maxSteps := 1000000) (dsimp := false) (disch := omega) only [go_sem, simprocAttr, *, isD], by simp (maxSteps := 1000000) (dsimp := false) (disch := omega) only [go_sem, simprocAttr, *, isD], rfl, hG.symm⟩
    · clear hG
      rintro e H ⟨j, hj, e0, e1, e5, ht⟩ R hR
      repeat' (first | refine wpB_seq ?_ | refine wpB_regionL rfl ?_ | refine wpB_block ?_ | refine wpB_skip ?_ | refine wpB_exit ?_ | refine wpB_ret ?_ | simp (maxSteps := 1000000) (dsimp := false) (disch := omega) only [go_sem, simprocAttr, *, isD])
      refine wpB_cond (by simp (maxSteps := 1000000) (dsimp := false) (disch := omega) only [go_sem, simprocAttr, *]; exact rfl) (fun hb => ?_) (fun hb => ?_) <;> try simp (maxSteps := 1000000) (dsimp := false) (disch := omega) only [go_sem, simprocAttr, decide_eq_true_eq, decide_eq_false_iff_not, Bool.not_eq_true, Bool.not_eq_false, Int.not_lt, Int.not_le] at hb
      · have hjb : j < b.length := by omega
        have hja : j < a.length := by omega
        rw [List.drop_eq_getElem_cons hja, List.drop_eq_getElem_cons hjb, List.cons_beq_cons] at ht
        by_cases hq : a[j] = b[j]
        · have hq' : (a[j] == b[j]) = true := by simp [hq]
          rw [hq', Bool.true_and] at ht
          clear hq'
          have hbq : (b[j] != b[j]) = false := by simp
          repeat' (first | refine wpB_seq ?_ | refine wpB_regionL rfl ?_ | refine wpB_block ?_ | refine wpB_skip ?_ | refine wpB_exit ?_ | refine wpB_ret ?_ | simp (maxSteps := 1000000) (dsimp := false) (disch := omega) only [go_sem, simprocAttr, *, isD])
          refine wpB_regionXL (prs := []) (by kernel_rfl) rfl (by kernel_rfl) ?_; simp (maxSteps := 1000000) (dsimp := false) (disch := omega) only [go_sem, simprocAttr, *, isD]
          refine wpB_cond (by simp (maxSteps := 1000000) (dsimp := false) (disch := omega) only [go_sem, simprocAttr, *]; exact rfl) (fun hb2 => ?_) (fun hb2 => ?_) <;> try simp (maxSteps := 1000000) (dsimp := false) (disch := omega) only [go_sem, simprocAttr, decide_eq_true_eq, decide_eq_false_iff_not, Bool.not_eq_true, Bool.not_eq_false, Int.not_lt, Int.not_le] at hb2
          repeat' (first | refine wpB_seq ?_ | refine wpB_regionL rfl ?_ | refine wpB_block ?_ | refine wpB_skip ?_ | refine wpB_exit ?_ | refine wpB_ret ?_ | simp (maxSteps := 1000000) (dsimp := false) (disch := omega) only [go_sem, simprocAttr, *])
          refine hR _ _ ⟨j + 1, by omega, by simp (maxSteps := 1000000) (dsimp := false) (disch := omega) only [go_sem, simprocAttr, *, isD], by simp (maxSteps := 1000000) (dsimp := false) (disch := omega) only [go_sem, simprocAttr, *, isD], by simp (maxSteps := 1000000) (dsimp := false) (disch := omega) only [go_sem, simprocAttr, *], ht⟩ ?_
          simp (maxSteps := 1000000) (dsimp := false) (disch := omega) only [go_sem, simprocAttr, *, natOf_int]
        · have hq' : (a[j] == b[j]) = false := by simp [hq]
          rw [hq', Bool.false_and] at ht
          rw [ht]
          clear hq'
          repeat' (first | refine wpB_seq ?_ | refine wpB_regionL rfl ?_ | refine wpB_block ?_ | refine wpB_skip ?_ | refine wpB_exit ?_ | refine wpB_ret ?_ | simp (maxSteps := 1000000) (dsimp := false) (disch := omega) only [go_sem, simprocAttr, *, isD])
          refine wpB_regionXL (prs := []) (by kernel_rfl) rfl (by kernel_rfl) ?_; simp (maxSteps := 1000000) (dsimp := false) (disch := omega) only [go_sem, simprocAttr, *, isD]
          refine wpB_cond (by simp (maxSteps := 1000000) (dsimp := false) (disch := omega) only [go_sem, simprocAttr, *]; exact rfl) (fun hb2 => ?_) (fun hb2 => ?_) <;> try simp (maxSteps := 1000000) (dsimp := false) (disch := omega) only [go_sem, simprocAttr, decide_eq_true_eq, decide_eq_false_iff_not, Bool.not_eq_true, Bool.not_eq_false, Int.not_lt, Int.not_le] at hb2
          repeat' (first | refine wpB_seq ?_ | refine wpB_regionL rfl ?_ | refine wpB_block ?_ | refine wpB_skip ?_ | refine wpB_exit ?_ | refine wpB_ret ?_ | simp (maxSteps := 1000000) (dsimp := false) (disch := omega) only [go_sem, simprocAttr, *])
          try rfl
      · rw [List.drop_eq_nil_of_le (by omega), List.drop_eq_nil_of_le (by omega)] at ht
        have : G = true := ht
        rw [this]
        repeat' (first | refine wpB_seq ?_ | refine wpB_regionL rfl ?_ | refine wpB_block ?_ | refine wpB_skip ?_ | refine wpB_exit ?_ | refine wpB_ret ?_ | simp (maxSteps := 1000000) (dsimp := false) (disch := omega) only [go_sem, simprocAttr, *])
        try rfl
  · have hz : (a == b) = false := by simp; rintro rfl; exact hab rfl
    rw [hz]
    repeat' (first | refine wpB_seq ?_ | refine wpB_regionL rfl ?_ | refine wpB_block ?_ | refine wpB_skip ?_ | refine wpB_exit ?_ | refine wpB_ret ?_ | simp (maxSteps := 1000000) (dsimp := false) (disch := omega) only [go_sem, simprocAttr, *, isD])
    refine wpB_cond (by simp (maxSteps := 1000000) (dsimp := false) (disch := omega) only [go_sem, simprocAttr, *]; exact rfl) (fun hb => ?_) (fun hb => ?_) <;> try simp (maxSteps := 1000000) (dsimp := false) (disch := omega) only [go_sem, simprocAttr, decide_eq_true_eq, decide_eq_false_iff_not, Bool.not_eq_true, Bool.not_eq_false, Int.not_lt, Int.not_le] at hb
    repeat' (first | refine wpB_seq ?_ | refine wpB_regionL rfl ?_ | refine wpB_block ?_ | refine wpB_skip ?_ | refine wpB_exit ?_ | refine wpB_ret ?_ | simp (maxSteps := 1000000) (dsimp := false) (disch := omega) only [go_sem, simprocAttr, *])
    try rfl
theorem pures_vec {m : Nat} {a v : D} {H : Heap} {xs : List D} (h : VecAt m v H xs) (hs : stripL xs = some xs) (ha : strip a = some a) : ∃ H', pures H [a, v] = some ([a, .sl false xs], H') := by
  obtain ⟨H', hp⟩ := h.pur (k := 4) hs
  refine ⟨H', ?_⟩
  simp only [pures, deepest, purL, pur_strip ha, Option.bind_some, hp, Option.map_some]
def okC (c : Int) : Bool := decide (0 ≤ c ∧ c < 16)
theorem letter_nil (c : Int) : (letterZ c == []) = !okC c := by
  unfold letterZ okC
  split <;> simp_all <;> omega
def okLt (c : UInt8) : Bool := decide (0 ≤ catZ c.toNat)
theorem wpB_midK {N : Nat} {c : Code} {e : Env} {H : Heap} {K : Env → Heap → Prop} {Q : Ex → Env → Heap → Prop} (I : Env → Heap → Prop) (h : ∀ R : Env → Heap → Prop, (∀ e' H', I e' H' → R e' H') → WpB Tryd.prog A N c e H (SeqQ R Q)) (k : ∀ e H, I e H → K e H) : WpB Tryd.prog A N c e H (SeqQ K Q) := h K k
theorem word_all (l : List Int) : wordZ l = if l.all okC then l.flatMap letterZ else [] := rfl
theorem cats_all (w : List UInt8) : catsZ w = if w.all okLt then some (w.map fun c => catZ c.toNat) else none := rfl
theorem all_next {α : Type} {l : List α} {f : α → Bool} {j : Nat} (h : j < l.length) : (l.take (j + 1)).all f = ((l.take j).all f && f l[j]) := by rw [take_succ' h, List.all_append]; simp
theorem flat_next {l : List Int} {j : Nat} (h : j < l.length) : (l.take (j + 1)).flatMap letterZ = (l.take j).flatMap letterZ ++ letterZ l[j] := by rw [take_succ' h, List.flatMap_append]; simp
theorem letters_law (l : List Int) (w : List UInt8) (cat : Int) : Yes 4 [isD l, .str w, .int .i64 cat] := by
  have hsl := strip_is l
  refine evF_inB (n := 95) (rs := [.tmp 6]) Tryd.func4 rfl rfl rfl rfl rfl rfl ?_
  repeat' (first | refine wpB_seq ?_ | refine wpB_regionL rfl ?_ | refine wpB_block ?_ | refine wpB_skip ?_ | refine wpB_exit ?_ | refine wpB_ret ?_ | simp (maxSteps := 1000000) (dsimp := false) (disch := omega) only [go_sem, simprocAttr, *])
  refine evB_plain bo7 rfl rfl rfl alive_ok ?_
  simp (maxSteps := 1000000) (dsimp := false) (disch := omega) only [go_sem, simprocAttr, *]
  refine wpB_cond (by simp (maxSteps := 1000000) (dsimp := false) (disch := omega) only [go_sem, simprocAttr, *]; exact rfl) (fun hb => ?_) (fun hb => ?_) <;> try simp (maxSteps := 1000000) (dsimp := false) (disch := omega) only [go_sem, simprocAttr, decide_eq_true_eq, decide_eq_false_iff_not, Bool.not_eq_true, Bool.not_eq_false, Int.not_lt, Int.not_le] at hb
  by_cases c1 : l.length ≤ 200
  · by_cases c2 : w.length ≤ 200
    · repeat' (first | refine wpB_seq ?_ | refine wpB_regionL rfl ?_ | refine wpB_block ?_ | refine wpB_skip ?_ | refine wpB_exit ?_ | refine wpB_ret ?_ | simp (maxSteps := 1000000) (dsimp := false) (disch := omega) only [go_sem, simprocAttr, *, isD])
      refine wpB_cond (by simp (maxSteps := 1000000) (dsimp := false) (disch := omega) only [go_sem, simprocAttr, *]; exact rfl) (fun hb2 => ?_) (fun hb2 => ?_) <;> try simp (maxSteps := 1000000) (dsimp := false) (disch := omega) only [go_sem, simprocAttr, decide_eq_true_eq, decide_eq_false_iff_not, Bool.not_eq_true, Bool.not_eq_false, Int.not_lt, Int.not_le] at hb2
      repeat' (first | refine wpB_seq ?_ | refine wpB_regionL rfl ?_ | refine wpB_block ?_ | refine wpB_skip ?_ | refine wpB_exit ?_ | refine wpB_ret ?_ | simp (maxSteps := 1000000) (dsimp := false) (disch := omega) only [go_sem, simprocAttr, *])
      refine wpB_loop (fun e H => ∃ j : Nat, j ≤ l.length ∧ H = [] ∧ e 0 = isD l ∧ e 1 = .str w ∧ e 2 = .int .i64 cat ∧ e 9 = .int .i64 j ∧ e 7 = .str ((l.take j).flatMap letterZ) ∧ e 8 = .bool ((l.take j).all okC)) (fun e H => l.length - natOf (e 9)) ?_ ?_
      · exact ⟨0, Nat.zero_le _, rfl, by simp (maxSteps := 1000000) (dsimp := false) (disch := omega) only [go_sem, simprocAttr, *, isD], by simp (maxSteps := 1000000) (dsimp := false) (disch := omega) only [go_sem, simprocAttr, *], by simp (maxSteps := 1000000) (dsimp := false) (disch := omega) only [go_sem, simprocAttr, *], rfl, by simp (maxSteps := 1000000) (dsimp := false) (disch := omega) only [go_sem, simprocAttr, *]; try rfl, by simp (maxSteps := 1000000) (dsimp := false) (disch := omega) only [go_sem, simprocAttr, *]; try rfl⟩
      · rintro e H ⟨j, hj, rfl, e0, e1, e2, e9, e7, e8⟩ R2 hR2
        have hlen := word_len (l.take j)
        have hlen2 : (l.take j).length ≤ l.length := by simp; omega
        repeat' (first | refine wpB_seq ?_ | refine wpB_regionL rfl ?_ | refine wpB_block ?_ | refine wpB_skip ?_ | refine wpB_exit ?_ | refine wpB_ret ?_ | simp (maxSteps := 1000000) (dsimp := false) (disch := omega) only [go_sem, simprocAttr, *, isD])
        refine wpB_cond (by simp (maxSteps := 1000000) (dsimp := false) (disch := omega) only [go_sem, simprocAttr, *]; exact rfl) (fun hb3 => ?_) (fun hb3 => ?_) <;> try simp (maxSteps := 1000000) (dsimp := false) (disch := omega) only [go_sem, simprocAttr, decide_eq_true_eq, decide_eq_false_iff_not, Bool.not_eq_true, Bool.not_eq_false, Int.not_lt, Int.not_le] at hb3
        · have hlt := letterZ_len l[j]
          have hnil := letter_nil l[j]
          have hn1 := all_next (f := okC) hb3
          have hn2 := flat_next hb3
          have hadd : ((l.take j).flatMap letterZ).length + (letterZ l[j]).length < 4611686018427387904 := by omega
          repeat' (first | refine wpB_seq ?_ | refine wpB_regionL rfl ?_ | refine wpB_block ?_ | refine wpB_skip ?_ | refine wpB_exit ?_ | refine wpB_ret ?_ | simp (maxSteps := 1000000) (dsimp := false) (disch := omega) only [go_sem, simprocAttr, *, isD])
          refine evB_plain bo11 rfl rfl (strip1 strip_int) (letter_ok l[j]) ?_
          generalize okC l[j] = o at *
          generalize letterZ l[j] = x at *
          generalize (l.take j).flatMap letterZ = y at *
          generalize (l.take j).all okC = a at *
          cases a with
          | true =>
            rw [Bool.true_and] at hn1
            simp (maxSteps := 1000000) (dsimp := false) (disch := omega) only [go_sem, simprocAttr, *]
            repeat' (first | refine wpB_seq ?_ | refine wpB_regionL rfl ?_ | refine wpB_block ?_ | refine wpB_skip ?_ | refine wpB_exit ?_ | refine wpB_ret ?_ | simp (maxSteps := 1000000) (dsimp := false) (disch := omega) only [go_sem, simprocAttr, *, isD])
            refine hR2 _ _ ⟨j + 1, by omega, rfl, by simp (maxSteps := 1000000) (dsimp := false) (disch := omega) only [go_sem, simprocAttr, *, isD], by simp (maxSteps := 1000000) (dsimp := false) (disch := omega) only [go_sem, simprocAttr, *], by simp (maxSteps := 1000000) (dsimp := false) (disch := omega) only [go_sem, simprocAttr, *], by simp (maxSteps := 1000000) (dsimp := false) (disch := omega) only [go_sem, simprocAttr, *], by simp (maxSteps := 1000000) (dsimp := false) (disch := omega) only [go_sem, simprocAttr, *], by simp (maxSteps := 1000000) (dsimp := false) (disch := omega) only [go_sem, simprocAttr, *]; try simp⟩ ?_
            simp (maxSteps := 1000000) (dsimp := false) (disch := omega) only [go_sem, simprocAttr, *, natOf_int]
          | false =>
            rw [Bool.false_and] at hn1
            simp (maxSteps := 1000000) (dsimp := false) (disch := omega) only [go_sem, simprocAttr, *]
            repeat' (first | refine wpB_seq ?_ | refine wpB_regionL rfl ?_ | refine wpB_block ?_ | refine wpB_skip ?_ | refine wpB_exit ?_ | refine wpB_ret ?_ | simp (maxSteps := 1000000) (dsimp := false) (disch := omega) only [go_sem, simprocAttr, *, isD])
            refine hR2 _ _ ⟨j + 1, by omega, rfl, by simp (maxSteps := 1000000) (dsimp := false) (disch := omega) only [go_sem, simprocAttr, *, isD], by simp (maxSteps := 1000000) (dsimp := false) (disch := omega) only [go_sem, simprocAttr, *], by simp (maxSteps := 1000000) (dsimp := false) (disch := omega) only [go_sem, simprocAttr, *], by simp (maxSteps := 1000000) (dsimp := false) (disch := omega) only [go_sem, simprocAttr, *], by simp (maxSteps := 1000000) (dsimp := false) (disch := omega) only [go_sem, simprocAttr, *], by simp (maxSteps := 1000000) (dsimp := false) (disch := omega) only [go_sem, simprocAttr, *]⟩ ?_
            simp (maxSteps := 1000000) (dsimp := false) (disch := omega) only [go_sem, simprocAttr, *, natOf_int]
        · have hjl : j = l.length := by omega
          subst hjl
          rw [List.take_length] at e7 e8
          clear hR2 hlen hlen2
          repeat' (first | refine wpB_seq ?_ | refine wpB_regionL rfl ?_ | refine wpB_block ?_ | refine wpB_skip ?_ | refine wpB_exit ?_ | refine wpB_ret ?_ | simp (maxSteps := 1000000) (dsimp := false) (disch := omega) only [go_sem, simprocAttr, *])
          refine wpB_midK (fun e H => e 0 = isD l ∧ e 1 = .str w ∧ e 2 = .int .i64 cat ∧ e 7 = .str (wordZ l)) ?_ ?_
          · intro R hR
            have hw := word_all l
            cases ho : l.all okC with
            | true =>
              rw [ho] at e8 hw
              simp only [if_true] at hw
              repeat' (first | refine wpB_seq ?_ | refine wpB_regionL rfl ?_ | refine wpB_block ?_ | refine wpB_skip ?_ | refine wpB_exit ?_ | refine wpB_ret ?_ | simp (maxSteps := 1000000) (dsimp := false) (disch := omega) only [go_sem, simprocAttr, *])
              refine wpB_cond (by simp (maxSteps := 1000000) (dsimp := false) (disch := omega) only [go_sem, simprocAttr, *]; exact rfl) (fun hb4 => ?_) (fun hb4 => ?_) <;> try simp (maxSteps := 1000000) (dsimp := false) (disch := omega) only [go_sem, simprocAttr, decide_eq_true_eq, decide_eq_false_iff_not, Bool.not_eq_true, Bool.not_eq_false, Int.not_lt, Int.not_le] at hb4
              repeat' (first | refine wpB_seq ?_ | refine wpB_regionL rfl ?_ | refine wpB_block ?_ | refine wpB_skip ?_ | refine wpB_exit ?_ | refine wpB_ret ?_ | simp (maxSteps := 1000000) (dsimp := false) (disch := omega) only [go_sem, simprocAttr, *])
              exact hR _ _ ⟨by simp (maxSteps := 1000000) (dsimp := false) (disch := omega) only [go_sem, simprocAttr, *], by simp (maxSteps := 1000000) (dsimp := false) (disch := omega) only [go_sem, simprocAttr, *], by simp (maxSteps := 1000000) (dsimp := false) (disch := omega) only [go_sem, simprocAttr, *], by simp (maxSteps := 1000000) (dsimp := false) (disch := omega) only [go_sem, simprocAttr, *]⟩
            | false =>
              rw [ho] at e8 hw
              simp only [Bool.false_eq_true, if_false] at hw
              repeat' (first | refine wpB_seq ?_ | refine wpB_regionL rfl ?_ | refine wpB_block ?_ | refine wpB_skip ?_ | refine wpB_exit ?_ | refine wpB_ret ?_ | simp (maxSteps := 1000000) (dsimp := false) (disch := omega) only [go_sem, simprocAttr, *])
              refine wpB_cond (by simp (maxSteps := 1000000) (dsimp := false) (disch := omega) only [go_sem, simprocAttr, *]; exact rfl) (fun hb4 => ?_) (fun hb4 => ?_) <;> try simp (maxSteps := 1000000) (dsimp := false) (disch := omega) only [go_sem, simprocAttr, decide_eq_true_eq, decide_eq_false_iff_not, Bool.not_eq_true, Bool.not_eq_false, Int.not_lt, Int.not_le] at hb4
              repeat' (first | refine wpB_seq ?_ | refine wpB_regionL rfl ?_ | refine wpB_block ?_ | refine wpB_skip ?_ | refine wpB_exit ?_ | refine wpB_ret ?_ | simp (maxSteps := 1000000) (dsimp := false) (disch := omega) only [go_sem, simprocAttr, *])
              exact hR _ _ ⟨by simp (maxSteps := 1000000) (dsimp := false) (disch := omega) only [go_sem, simprocAttr, *], by simp (maxSteps := 1000000) (dsimp := false) (disch := omega) only [go_sem, simprocAttr, *], by simp (maxSteps := 1000000) (dsimp := false) (disch := omega) only [go_sem, simprocAttr, *], by simp (maxSteps := 1000000) (dsimp := false) (disch := omega) only [go_sem, simprocAttr, *]⟩
          · clear e0 e1 e2 e7 e8 e9
            rintro e H ⟨e0, e1, e2, e7⟩
            repeat' (first | refine wpB_seq ?_ | refine wpB_regionL rfl ?_ | refine wpB_block ?_ | refine wpB_skip ?_ | refine wpB_exit ?_ | refine wpB_ret ?_ | simp (maxSteps := 1000000) (dsimp := false) (disch := omega) only [go_sem, simprocAttr, *])
            refine wpB_loop (fun e H => ∃ j : Nat, j ≤ w.length ∧ VecAt 0 (e 11) H (((w.take j).map fun c => catZ c.toNat).map (.int .i64)) ∧ e 0 = isD l ∧ e 1 = .str w ∧ e 2 = .int .i64 cat ∧ e 7 = .str (wordZ l) ∧ e 13 = .int .i64 j ∧ e 12 = .bool ((w.take j).all okLt)) (fun e H => w.length - natOf (e 13)) ?_ ?_
            · exact ⟨0, Nat.zero_le _, VecAt.nil (Nat.zero_le _), by simp (maxSteps := 1000000) (dsimp := false) (disch := omega) only [go_sem, simprocAttr, *, isD], by simp (maxSteps := 1000000) (dsimp := false) (disch := omega) only [go_sem, simprocAttr, *], by simp (maxSteps := 1000000) (dsimp := false) (disch := omega) only [go_sem, simprocAttr, *], by simp (maxSteps := 1000000) (dsimp := false) (disch := omega) only [go_sem, simprocAttr, *], rfl, by simp (maxSteps := 1000000) (dsimp := false) (disch := omega) only [go_sem, simprocAttr, *]; try rfl⟩
            · clear e0 e1 e2 e7
              rintro e H ⟨j, hj, hv, e0, e1, e2, e7, e13, e12⟩ R2 hR2
              repeat' (first | refine wpB_seq ?_ | refine wpB_regionL rfl ?_ | refine wpB_block ?_ | refine wpB_skip ?_ | refine wpB_exit ?_ | refine wpB_ret ?_ | simp (maxSteps := 1000000) (dsimp := false) (disch := omega) only [go_sem, simprocAttr, *, isD])
              refine wpB_cond (by simp (maxSteps := 1000000) (dsimp := false) (disch := omega) only [go_sem, simprocAttr, *]; exact rfl) (fun hb3 => ?_) (fun hb3 => ?_) <;> try simp (maxSteps := 1000000) (dsimp := false) (disch := omega) only [go_sem, simprocAttr, decide_eq_true_eq, decide_eq_false_iff_not, Bool.not_eq_true, Bool.not_eq_false, Int.not_lt, Int.not_le] at hb3
              · have hn1 := all_next (f := okLt) hb3
                have hok : okLt w[j] = decide (0 ≤ catZ (w[j]).toNat) := rfl
                obtain ⟨d', H', ha, hv', -⟩ := app_int hv (catZ (w[j]).toNat) (by simp; omega)
                have hv2 : VecAt 0 d' H' (((w.take (j + 1)).map fun c => catZ c.toNat).map (.int .i64)) := by rw [take_succ' hb3, List.map_append]; exact hv'
                clear hv'
                have hcat := category_ok ((w[j]).toNat) (by omega) (by have := (w[j]).toNat_lt; omega)
                repeat' (first | refine wpB_seq ?_ | refine wpB_regionL rfl ?_ | refine wpB_block ?_ | refine wpB_skip ?_ | refine wpB_exit ?_ | refine wpB_ret ?_ | simp (maxSteps := 1000000) (dsimp := false) (disch := omega) only [go_sem, simprocAttr, *, isD])
                refine evB_plain bo12 rfl rfl (strip1 strip_int) hcat ?_
                generalize okLt w[j] = o at *
                generalize catZ (w[j]).toNat = x at *
                generalize (w.take j).all okLt = a at *
                clear hcat
                cases a with
                | true =>
                  rw [Bool.true_and] at hn1
                  simp (maxSteps := 1000000) (dsimp := false) (disch := omega) only [go_sem, simprocAttr, *]
                  repeat' (first | refine wpB_seq ?_ | refine wpB_regionL rfl ?_ | refine wpB_block ?_ | refine wpB_skip ?_ | refine wpB_exit ?_ | refine wpB_ret ?_ | simp (maxSteps := 1000000) (dsimp := false) (disch := omega) only [go_sem, simprocAttr, *, isD])
                  refine hR2 _ _ ⟨j + 1, by omega, hv2, by simp (maxSteps := 1000000) (dsimp := false) (disch := omega) only [go_sem, simprocAttr, *, isD], by simp (maxSteps := 1000000) (dsimp := false) (disch := omega) only [go_sem, simprocAttr, *], by simp (maxSteps := 1000000) (dsimp := false) (disch := omega) only [go_sem, simprocAttr, *], by simp (maxSteps := 1000000) (dsimp := false) (disch := omega) only [go_sem, simprocAttr, *], by simp (maxSteps := 1000000) (dsimp := false) (disch := omega) only [go_sem, simprocAttr, *], by simp (maxSteps := 1000000) (dsimp := false) (disch := omega) only [go_sem, simprocAttr, *]⟩ ?_
                  simp (maxSteps := 1000000) (dsimp := false) (disch := omega) only [go_sem, simprocAttr, *, natOf_int]
                | false =>
                  rw [Bool.false_and] at hn1
                  simp (maxSteps := 1000000) (dsimp := false) (disch := omega) only [go_sem, simprocAttr, *]
                  repeat' (first | refine wpB_seq ?_ | refine wpB_regionL rfl ?_ | refine wpB_block ?_ | refine wpB_skip ?_ | refine wpB_exit ?_ | refine wpB_ret ?_ | simp (maxSteps := 1000000) (dsimp := false) (disch := omega) only [go_sem, simprocAttr, *, isD])
                  refine hR2 _ _ ⟨j + 1, by omega, hv2, by simp (maxSteps := 1000000) (dsimp := false) (disch := omega) only [go_sem, simprocAttr, *, isD], by simp (maxSteps := 1000000) (dsimp := false) (disch := omega) only [go_sem, simprocAttr, *], by simp (maxSteps := 1000000) (dsimp := false) (disch := omega) only [go_sem, simprocAttr, *], by simp (maxSteps := 1000000) (dsimp := false) (disch := omega) only [go_sem, simprocAttr, *], by simp (maxSteps := 1000000) (dsimp := false) (disch := omega) only [go_sem, simprocAttr, *], by simp (maxSteps := 1000000) (dsimp := false) (disch := omega) only [go_sem, simprocAttr, *]⟩ ?_
                  simp (maxSteps := 1000000) (dsimp := false) (disch := omega) only [go_sem, simprocAttr, *, natOf_int]
              · have hjl : j = w.length := by omega
                subst hjl
                rw [List.take_length] at hv e12
                clear hR2
                repeat' (first | refine wpB_seq ?_ | refine wpB_regionL rfl ?_ | refine wpB_block ?_ | refine wpB_skip ?_ | refine wpB_exit ?_ | refine wpB_ret ?_ | simp (maxSteps := 1000000) (dsimp := false) (disch := omega) only [go_sem, simprocAttr, *])
                refine wpB_midK (fun e H => ∃ (ok : Bool) (m : List Int), catsD w = .tup [isD m, .bool ok] ∧ m.length ≤ 200 ∧ VecAt 0 (e 11) H (m.map (.int .i64)) ∧ e 0 = isD l ∧ e 1 = .str w ∧ e 2 = .int .i64 cat ∧ e 7 = .str (wordZ l) ∧ e 12 = .bool ok) ?_ ?_
                · intro R hR
                  have hw := cats_all w
                  cases ho : w.all okLt with
                  | true =>
                    rw [ho] at e12 hw
                    simp only [if_true] at hw
                    repeat' (first | refine wpB_seq ?_ | refine wpB_regionL rfl ?_ | refine wpB_block ?_ | refine wpB_skip ?_ | refine wpB_exit ?_ | refine wpB_ret ?_ | simp (maxSteps := 1000000) (dsimp := false) (disch := omega) only [go_sem, simprocAttr, *])
                    refine wpB_cond (by simp (maxSteps := 1000000) (dsimp := false) (disch := omega) only [go_sem, simprocAttr, *]; exact rfl) (fun hb4 => ?_) (fun hb4 => ?_) <;> try simp (maxSteps := 1000000) (dsimp := false) (disch := omega) only [go_sem, simprocAttr, decide_eq_true_eq, decide_eq_false_iff_not, Bool.not_eq_true, Bool.not_eq_false, Int.not_lt, Int.not_le] at hb4
                    repeat' (first | refine wpB_seq ?_ | refine wpB_regionL rfl ?_ | refine wpB_block ?_ | refine wpB_skip ?_ | refine wpB_exit ?_ | refine wpB_ret ?_ | simp (maxSteps := 1000000) (dsimp := false) (disch := omega) only [go_sem, simprocAttr, *])
                    exact hR _ _ ⟨true, _, by simp only [catsD, hw], by simpa using c2, hv, by simp (maxSteps := 1000000) (dsimp := false) (disch := omega) only [go_sem, simprocAttr, *], by simp (maxSteps := 1000000) (dsimp := false) (disch := omega) only [go_sem, simprocAttr, *], by simp (maxSteps := 1000000) (dsimp := false) (disch := omega) only [go_sem, simprocAttr, *], by simp (maxSteps := 1000000) (dsimp := false) (disch := omega) only [go_sem, simprocAttr, *], by simp (maxSteps := 1000000) (dsimp := false) (disch := omega) only [go_sem, simprocAttr, *]⟩
                  | false =>
                    rw [ho] at e12 hw
                    simp only [Bool.false_eq_true, if_false] at hw
                    repeat' (first | refine wpB_seq ?_ | refine wpB_regionL rfl ?_ | refine wpB_block ?_ | refine wpB_skip ?_ | refine wpB_exit ?_ | refine wpB_ret ?_ | simp (maxSteps := 1000000) (dsimp := false) (disch := omega) only [go_sem, simprocAttr, *])
                    refine wpB_cond (by simp (maxSteps := 1000000) (dsimp := false) (disch := omega) only [go_sem, simprocAttr, *]; exact rfl) (fun hb4 => ?_) (fun hb4 => ?_) <;> try simp (maxSteps := 1000000) (dsimp := false) (disch := omega) only [go_sem, simprocAttr, decide_eq_true_eq, decide_eq_false_iff_not, Bool.not_eq_true, Bool.not_eq_false, Int.not_lt, Int.not_le] at hb4
                    repeat' (first | refine wpB_seq ?_ | refine wpB_regionL rfl ?_ | refine wpB_block ?_ | refine wpB_skip ?_ | refine wpB_exit ?_ | refine wpB_ret ?_ | simp (maxSteps := 1000000) (dsimp := false) (disch := omega) only [go_sem, simprocAttr, *])
                    exact hR _ _ ⟨false, [], by simp only [catsD, hw], by simp, VecAt.nil (Nat.zero_le _), by simp (maxSteps := 1000000) (dsimp := false) (disch := omega) only [go_sem, simprocAttr, *], by simp (maxSteps := 1000000) (dsimp := false) (disch := omega) only [go_sem, simprocAttr, *], by simp (maxSteps := 1000000) (dsimp := false) (disch := omega) only [go_sem, simprocAttr, *], by simp (maxSteps := 1000000) (dsimp := false) (disch := omega) only [go_sem, simprocAttr, *], by simp (maxSteps := 1000000) (dsimp := false) (disch := omega) only [go_sem, simprocAttr, *]⟩
                · clear e0 e1 e2 e7 e12 e13 hv
                  rintro e H ⟨ok, m, hc, hm, hv, e0, e1, e2, e7, e12⟩
                  have hcats := catsP_ok w (by omega)
                  rw [hc] at hcats
                  repeat' (first | refine wpB_seq ?_ | refine wpB_regionL rfl ?_ | refine wpB_block ?_ | refine wpB_skip ?_ | refine wpB_exit ?_ | refine wpB_ret ?_ | simp (maxSteps := 1000000) (dsimp := false) (disch := omega) only [go_sem, simprocAttr, *])
                  refine evB_plain bo13 rfl rfl (strip1 rfl) hcats ?_
                  simp (maxSteps := 1000000) (dsimp := false) (disch := omega) only [go_sem, simprocAttr, *]
                  repeat' (first | refine wpB_seq ?_ | refine wpB_regionL rfl ?_ | refine wpB_block ?_ | refine wpB_skip ?_ | refine wpB_exit ?_ | refine wpB_ret ?_ | simp (maxSteps := 1000000) (dsimp := false) (disch := omega) only [go_sem, simprocAttr, *])
                  refine evB_plain bo14 rfl rfl (strip1 hsl) (wordP_ok l (by omega)) ?_
                  simp (maxSteps := 1000000) (dsimp := false) (disch := omega) only [go_sem, simprocAttr, *]
                  repeat' (first | refine wpB_seq ?_ | refine wpB_regionL rfl ?_ | refine wpB_block ?_ | refine wpB_skip ?_ | refine wpB_exit ?_ | refine wpB_ret ?_ | simp (maxSteps := 1000000) (dsimp := false) (disch := omega) only [go_sem, simprocAttr, *])
                  refine evB_plain bo15 rfl rfl (strip1 strip_int) (letterP_ok cat) ?_
                  simp (maxSteps := 1000000) (dsimp := false) (disch := omega) only [go_sem, simprocAttr, *]
                  refine evB_plain bo11 rfl rfl (strip1 strip_int) (letter_ok cat) ?_
                  have hself : (letterZ cat == letterZ cat) = true := by simp
                  generalize hlz : letterZ cat = z at *
                  clear hlz
                  obtain ⟨H', hpu⟩ := pures_vec hv (strip_ints m) (strip_is m)
                  have hints := ints_ok m m (by omega)
                  have hmm : (m == m) = true := by simp
                  rw [hmm] at hints
                  clear hmm hc hcats
                  cases ok with
                  | true =>
                    simp (maxSteps := 1000000) (dsimp := false) (disch := omega) only [go_sem, simprocAttr, *]
                    refine evB_pure bo16 rfl rfl hpu hints ?_
                    simp (maxSteps := 1000000) (dsimp := false) (disch := omega) only [go_sem, simprocAttr, *]
                    repeat' (first | refine wpB_seq ?_ | refine wpB_regionL rfl ?_ | refine wpB_block ?_ | refine wpB_skip ?_ | refine wpB_exit ?_ | refine wpB_ret ?_ | simp (maxSteps := 1000000) (dsimp := false) (disch := omega) only [go_sem, simprocAttr, *])
                    try rfl
                  | false =>
                    simp (maxSteps := 1000000) (dsimp := false) (disch := omega) only [go_sem, simprocAttr, *]
                    refine evB_pure bo16 rfl rfl hpu hints ?_
                    simp (maxSteps := 1000000) (dsimp := false) (disch := omega) only [go_sem, simprocAttr, *]
                    repeat' (first | refine wpB_seq ?_ | refine wpB_regionL rfl ?_ | refine wpB_block ?_ | refine wpB_skip ?_ | refine wpB_exit ?_ | refine wpB_ret ?_ | simp (maxSteps := 1000000) (dsimp := false) (disch := omega) only [go_sem, simprocAttr, *])
                    try rfl
    · repeat' (first | refine wpB_seq ?_ | refine wpB_regionL rfl ?_ | refine wpB_block ?_ | refine wpB_skip ?_ | refine wpB_exit ?_ | refine wpB_ret ?_ | simp (maxSteps := 1000000) (dsimp := false) (disch := omega) only [go_sem, simprocAttr, *, isD])
      refine wpB_cond (by simp (maxSteps := 1000000) (dsimp := false) (disch := omega) only [go_sem, simprocAttr, *]; exact rfl) (fun hb2 => ?_) (fun hb2 => ?_) <;> try simp (maxSteps := 1000000) (dsimp := false) (disch := omega) only [go_sem, simprocAttr, decide_eq_true_eq, decide_eq_false_iff_not, Bool.not_eq_true, Bool.not_eq_false, Int.not_lt, Int.not_le] at hb2
      repeat' (first | refine wpB_seq ?_ | refine wpB_regionL rfl ?_ | refine wpB_block ?_ | refine wpB_skip ?_ | refine wpB_exit ?_ | refine wpB_ret ?_ | simp (maxSteps := 1000000) (dsimp := false) (disch := omega) only [go_sem, simprocAttr, *])
      try rfl
  · repeat' (first | refine wpB_seq ?_ | refine wpB_regionL rfl ?_ | refine wpB_block ?_ | refine wpB_skip ?_ | refine wpB_exit ?_ | refine wpB_ret ?_ | simp (maxSteps := 1000000) (dsimp := false) (disch := omega) only [go_sem, simprocAttr, *, isD])
    refine wpB_cond (by simp (maxSteps := 1000000) (dsimp := false) (disch := omega) only [go_sem, simprocAttr, *]; exact rfl) (fun hb2 => ?_) (fun hb2 => ?_) <;> try simp (maxSteps := 1000000) (dsimp := false) (disch := omega) only [go_sem, simprocAttr, decide_eq_true_eq, decide_eq_false_iff_not, Bool.not_eq_true, Bool.not_eq_false, Int.not_lt, Int.not_le] at hb2
    repeat' (first | refine wpB_seq ?_ | refine wpB_regionL rfl ?_ | refine wpB_block ?_ | refine wpB_skip ?_ | refine wpB_exit ?_ | refine wpB_ret ?_ | simp (maxSteps := 1000000) (dsimp := false) (disch := omega) only [go_sem, simprocAttr, *])
    try rfl
end Go.Proofs.W
end
/- The law on beginnings of grammars. -/
section
set_option maxHeartbeats 4000000
set_option linter.unusedVariables false
set_option linter.unusedSimpArgs false
namespace Go.Proofs.W
open Go Vm Go.Proofs.Zs05

theorem mayAll_app (a l : List Rule) (r : Rule) : mayAll a (l ++ [r]) = (mayAll a l && mayZ (a ++ l) r) := by
  induction l generalizing a with
  | nil => simp [mayAll]
  | cons x l ih => simp [mayAll, ih, Bool.and_assoc]
theorem mayAll_take (l : List Rule) : ∀ (a : List Rule) (k : Nat), mayAll a l = true → mayAll a (l.take k) = true := by
  induction l with
  | nil => intro a k _; simp [mayAll]
  | cons x l ih =>
    intro a k h
    simp only [mayAll, Bool.and_eq_true] at h
    cases k with
    | zero => rfl
    | succ k => simp only [List.take_succ_cons, mayAll, Bool.and_eq_true]; exact ⟨h.1, ih _ k h.2⟩
/-- some more that lie plain -/
theorem appendL {P : Program} {t e : TypeId} {n w : Nat} {z : D} {H : Heap} {ys : List D} {f : Bool} (he : elemT P t = some e) (hn : sizeT P e = some n) (hw : bytesT P e = some w) (hz : zeroT P e = some z) (hzn : z.cells.length = n) (hw0 : w ≠ 0)
    (hs : stripL ys = some ys) (hx : headSize n ys = true) (hy : ys ≠ []) (hm : ys.length * w ≤ 140737488355328) :
    ∃ d' H', appendD P t H (.sl true []) (.sl f ys) = some (d', H') ∧ VecAt 0 d' H' ys := by
  refine ⟨.vec H.length 0 ys.length, H ++ [.arr ys], ?_, ⟨Nat.zero_le _, .inr ⟨hy, H.length, Nat.zero_le _, by simp, rfl, hget_app0⟩⟩⟩
  have ha : addedD H (.sl f ys) = some (ys, H) := by simp [addedD, elems, pures_strip hs]
  have hne : ys.isEmpty = false := by simpa using hy
  simp only [appendD, he, hn, hw, hz, Option.bind_some, ha, hzn]
  have h0 : headSize n [] = true := rfl
  simp [hw0, hne, hx, hm, mostBytes, h0]
attribute [local go_sem] zr_rule
theorem prefix_law (l : List Rule) (ht : ∀ r ∈ l, tyR r.rx) (n : Int) (hn : 0 ≤ n ∧ n < 256) : Yes 6 [rulesD l, .int .u8 n] := by
  have hs := strip_g l
  refine evF_inB (n := 42) (rs := [.tmp 4]) Tryd.func6 rfl rfl rfl rfl rfl rfl ?_
  repeat' (first | refine wpB_seq ?_ | refine wpB_regionL rfl ?_ | refine wpB_block ?_ | refine wpB_skip ?_ | refine wpB_exit ?_ | refine wpB_ret ?_ | simp (maxSteps := 1000000) (dsimp := false) (disch := omega) only [go_sem, simprocAttr, *])
  refine evB_plain bo7 rfl rfl rfl alive_ok ?_
  simp (maxSteps := 1000000) (dsimp := false) (disch := omega) only [go_sem, simprocAttr, *]
  refine wpB_cond (by simp (maxSteps := 1000000) (dsimp := false) (disch := omega) only [go_sem, simprocAttr, *]; exact rfl) (fun hb => ?_) (fun hb => ?_) <;> try simp (maxSteps := 1000000) (dsimp := false) (disch := omega) only [go_sem, simprocAttr, decide_eq_true_eq, decide_eq_false_iff_not, Bool.not_eq_true, Bool.not_eq_false, Int.not_lt, Int.not_le] at hb
  repeat' (first | refine wpB_seq ?_ | refine wpB_regionL rfl ?_ | refine wpB_block ?_ | refine wpB_skip ?_ | refine wpB_exit ?_ | refine wpB_ret ?_ | simp (maxSteps := 1000000) (dsimp := false) (disch := omega) only [go_sem, simprocAttr, *])
  refine evB_plain bo8 rfl rfl hs (great_rules_ok l) ?_
  cases hg : greatG l with
  | true =>
    simp (maxSteps := 1000000) (dsimp := false) (disch := omega) only [go_sem, simprocAttr, *]
    repeat' (first | refine wpB_seq ?_ | refine wpB_regionL rfl ?_ | refine wpB_block ?_ | refine wpB_skip ?_ | refine wpB_exit ?_ | refine wpB_ret ?_ | simp (maxSteps := 1000000) (dsimp := false) (disch := omega) only [go_sem, simprocAttr, *])
    refine wpB_cond (by simp (maxSteps := 1000000) (dsimp := false) (disch := omega) only [go_sem, simprocAttr, *]; exact rfl) (fun hb2 => ?_) (fun hb2 => ?_) <;> try simp (maxSteps := 1000000) (dsimp := false) (disch := omega) only [go_sem, simprocAttr, decide_eq_true_eq, decide_eq_false_iff_not, Bool.not_eq_true, Bool.not_eq_false, Int.not_lt, Int.not_le] at hb2
    repeat' (first | refine wpB_seq ?_ | refine wpB_regionL rfl ?_ | refine wpB_block ?_ | refine wpB_skip ?_ | refine wpB_exit ?_ | refine wpB_ret ?_ | simp (maxSteps := 1000000) (dsimp := false) (disch := omega) only [go_sem, simprocAttr, *])
    try rfl
  | false =>
    obtain ⟨h1, h2⟩ := great_small hg ht
    have h2' := fun r hr => (⟨(h2 r hr).1, Nat.le_trans (h2 r hr).2 (by omega)⟩ : okR r.rx ∧ r.nm.length ≤ 1000000)
    simp (maxSteps := 1000000) (dsimp := false) (disch := omega) only [go_sem, simprocAttr, *]
    refine evB_plain bo9 rfl rfl hs (right_rules_ok l (by omega) h2') ?_
    cases hr : rightG l with
    | false =>
      simp (maxSteps := 1000000) (dsimp := false) (disch := omega) only [go_sem, simprocAttr, *]
      repeat' (first | refine wpB_seq ?_ | refine wpB_regionL rfl ?_ | refine wpB_block ?_ | refine wpB_skip ?_ | refine wpB_exit ?_ | refine wpB_ret ?_ | simp (maxSteps := 1000000) (dsimp := false) (disch := omega) only [go_sem, simprocAttr, *])
      refine wpB_cond (by simp (maxSteps := 1000000) (dsimp := false) (disch := omega) only [go_sem, simprocAttr, *]; exact rfl) (fun hb2 => ?_) (fun hb2 => ?_) <;> try simp (maxSteps := 1000000) (dsimp := false) (disch := omega) only [go_sem, simprocAttr, decide_eq_true_eq, decide_eq_false_iff_not, Bool.not_eq_true, Bool.not_eq_false, Int.not_lt, Int.not_le] at hb2
      repeat' (first | refine wpB_seq ?_ | refine wpB_regionL rfl ?_ | refine wpB_block ?_ | refine wpB_skip ?_ | refine wpB_exit ?_ | refine wpB_ret ?_ | simp (maxSteps := 1000000) (dsimp := false) (disch := omega) only [go_sem, simprocAttr, *])
      try rfl
    | true =>
      simp only [rightG, Bool.and_eq_true, decide_eq_true_eq] at hr
      obtain ⟨⟨h3, h4⟩, h5⟩ := hr
      simp (maxSteps := 1000000) (dsimp := false) (disch := omega) only [go_sem, simprocAttr, *]
      refine wpB_cond (by simp (maxSteps := 1000000) (dsimp := false) (disch := omega) only [go_sem, simprocAttr, *]; exact rfl) (fun hb2 => ?_) (fun hb2 => ?_) <;> try simp (maxSteps := 1000000) (dsimp := false) (disch := omega) only [go_sem, simprocAttr, decide_eq_true_eq, decide_eq_false_iff_not, Bool.not_eq_true, Bool.not_eq_false, Int.not_lt, Int.not_le] at hb2
      have hq0 : 0 ≤ n.tmod (l.length : Int) := Int.tmod_nonneg _ hn.1
      have hq1 : n.tmod (l.length : Int) < l.length := Int.tmod_lt_of_pos _ (by omega)
      generalize hq : n.tmod (l.length : Int) = q at *
      obtain ⟨k, rfl⟩ : ∃ k : Nat, q = k := ⟨q.toNat, by omega⟩
      have hl0 : 0 < l.length := by omega
      have hlz : ((l.length : Int) = 0) = False := by simp only [eq_iff_iff, iff_false]; omega
      have hk : ((1 : Int) + k).toNat = k + 1 := by omega
      have hst := strip_rules (l.take (k + 1))
      have hhs : headSize 5 (l.map ruleD) = true := by cases l <;> rfl
      have hhs2 : headSize 5 ((l.map ruleD).take (k + 1)) = true := by cases l <;> rfl
      have hne : (l.map ruleD).take (k + 1) ≠ [] := by cases l with | nil => simp at h3 | cons a b => simp
      have hx : (l.map ruleD)[0]? = some (ruleD l[0]) := by rw [List.getElem?_map, List.getElem?_eq_getElem hl0]; rfl
      rw [List.map_take] at hst
      obtain ⟨d1, H1, ha1, hv1⟩ := appendL (H := []) (f := false) el22 sz42 by42 zr_rule rfl (by decide) hst hhs2 hne (by simp; omega)
      obtain ⟨d2, H2, ha2, hv2, -⟩ := VecAt.append el22 sz42 by42 zr_rule rfl (by decide) hv1 (q := ruleD l[0]) rfl (strip_rule _) hhs2 (by simp; omega)
      have hR1 := right_rules_ok (l.take (k + 1)) (by simp; omega) (fun r hr => h2' r (List.mem_of_mem_take hr))
      have hR2 := right_rules_ok (l.take (k + 1) ++ [l[0]]) (by simp; omega) (fun r hr => by
        rcases List.mem_append.1 hr with hr | hr
        · exact h2' r (List.mem_of_mem_take hr)
        · simp only [List.mem_singleton] at hr; subst hr; exact h2' _ (List.getElem_mem _))
      have t1 : rightG (l.take (k + 1)) = true := by
        simp only [rightG, Bool.and_eq_true, decide_eq_true_eq]
        exact ⟨⟨by simp; omega, by simp; omega⟩, mayAll_take l [] _ h5⟩
      have t2 : rightG (l.take (k + 1) ++ [l[0]]) = false := by
        have : namedZ (l.take (k + 1)) l[0].nm = true := by
          cases l with | nil => simp at h3 | cons a b => simp [namedZ]
        simp [rightG, mayAll_app, mayZ, this]
      have hst2 := strip_rules (l.take (k + 1) ++ [l[0]])
      rw [t1] at hR1
      rw [t2] at hR2
      have e2 : rulesD (l.take (k + 1) ++ [l[0]]) = .sl false ((l.map ruleD).take (k + 1) ++ [ruleD l[0]]) := by simp [rulesD, List.map_take]
      have e1 : rulesD (l.take (k + 1)) = .sl false ((l.map ruleD).take (k + 1)) := by simp [rulesD, List.map_take]
      rw [e2] at hR2
      rw [e1] at hR1
      rw [List.map_append, List.map_take] at hst2
      obtain ⟨H3, hpu⟩ := hv2.pur (k := 4) hst2
      have hpu2 : pures H2 [d2] = some ([.sl false ((l.map ruleD).take (k + 1) ++ [ruleD l[0]])], H3) := by
        simp only [pures, deepest, purL, hpu, Option.bind_some, Option.map_some]
      clear hpu hv1 hv2 t1 t2 e1 e2 hst2
      have c1 := rule_cells l[0]
      have c2 := rule_aggQ l[0]
      have c3 := rule_noTup l[0]
      generalize ruleD l[0] = d0 at *
      repeat' (first | refine wpB_seq ?_ | refine wpB_regionL rfl ?_ | refine wpB_block ?_ | refine wpB_skip ?_ | refine wpB_exit ?_ | refine wpB_ret ?_ | simp (maxSteps := 1000000) (dsimp := false) (disch := omega) only [go_sem, simprocAttr, *, rulesD])
      have hpl : stripL [.sl false ((l.map ruleD).take (k + 1))] = some [.sl false ((l.map ruleD).take (k + 1))] := strip1 (by simp [strip, hst])
      refine evB_plain bo9 rfl rfl hpl hR1 ?_
      simp (maxSteps := 1000000) (dsimp := false) (disch := omega) only [go_sem, simprocAttr, *]
      refine evB_pure bo9 rfl rfl hpu2 hR2 ?_
      simp (maxSteps := 1000000) (dsimp := false) (disch := omega) only [go_sem, simprocAttr, *]
      repeat' (first | refine wpB_seq ?_ | refine wpB_regionL rfl ?_ | refine wpB_block ?_ | refine wpB_skip ?_ | refine wpB_exit ?_ | refine wpB_ret ?_ | simp (maxSteps := 1000000) (dsimp := false) (disch := omega) only [go_sem, simprocAttr, *])
      try rfl
end Go.Proofs.W
end
/- Calls that wait, and what comes back. -/
section
set_option linter.unusedVariables false
set_option linter.unusedSimpArgs false
namespace Vm
open Go
section
variable {P : Program} {A : Ann} {N : Nat}
def WpS (P : Program) (A : Ann) (N : Nat) (c : Code) (e : Env) (H : Heap) (m : Md) (Q : Ex → Env → Heap → Md → Prop) : Prop :=
  ∃ k s m', runS P A N (runC P A (runF P A k) k N) c e H m = some (s, m') ∧ Q s.ex s.e s.H m'
def noRec : Code → Bool
  | .seq a b => noRec a && noRec b
  | .cond _ a b => noRec a && noRec b
  | .region _ ops draw => !(decide (draw = false) && ops.toList.any fun o => recoverC o.op)
  | _ => true
theorem runS_le {k k' : Nat} (h : k ≤ k') {c : Code} {e : Env} {H : Heap} {m : Md} {x : St × Md} (hr : runS P A N (runC P A (runF P A k) k N) c e H m = some x) : runS P A N (runC P A (runF P A k') k' N) c e H m = some x :=
  runS_mono (fun c e H s hs => runRun_mono h N c e H s hs) hr
theorem runS_calm {k : Nat} {m : Md} : ∀ {c : Code} {e : Env} {H : Heap} {s : St}, noRec c = true → runC P A (runF P A k) k N c e H = some s → runS P A N (runC P A (runF P A k) k N) c e H m = some (s, m) := by
  intro c
  induction c with
  | seq a b iha ihb =>
    intro e H s hc h
    simp only [noRec, Bool.and_eq_true] at hc
    simp only [runC] at h
    simp only [runS]
    cases ha : runC P A (runF P A k) k N a e H with
    | none => rw [ha] at h; cases h
    | some s1 =>
      rw [iha hc.1 ha]
      rw [ha] at h
      obtain ⟨x, e1, H1⟩ := s1
      cases x with
      | norm => simp only [Option.bind_some] at h ⊢; exact ihb hc.2 h
      | _ => simp only [Option.bind_some] at h ⊢; first | (cases h; rfl) | (simp at h; subst h; rfl)
  | cond o a b iha ihb =>
    intro e H s hc h
    simp only [noRec, Bool.and_eq_true] at hc
    simp only [runC] at h
    simp only [runS]
    split at h
    · exact iha hc.1 h
    · exact ihb hc.2 h
    · cases h
  | region id ops draw =>
    intro e H s hc h
    simp only [noRec, Bool.not_eq_true', Bool.and_eq_false_iff, decide_eq_false_iff_not] at hc
    simp only [runS]
    rw [if_neg (fun g => hc.elim (fun hc => hc g.1) (fun hc => absurd (hc.symm.trans g.2) (by decide))), h]
    rfl
  | _ => intro e H s hc h; simp only [runS]; rw [h]; rfl
theorem wpS_calm {c : Code} {e : Env} {H : Heap} {m : Md} {Q : Ex → Env → Heap → Md → Prop} (hc : noRec c = true) (h : WpB P A N c e H (fun x e H => Q x e H m)) : WpS P A N c e H m Q := by
  unfold WpB at h
  obtain ⟨k, s, h1, h2⟩ := h
  exact ⟨k, s, m, runS_calm hc h1, h2⟩
theorem wpS_seq {a b : Code} {e : Env} {H : Heap} {m : Md} {Q : Ex → Env → Heap → Md → Prop} (h : WpS P A N a e H m (fun x e H m => x = .norm ∧ WpS P A N b e H m Q)) : WpS P A N (.seq a b) e H m Q := by
  obtain ⟨k, ⟨x, e1, H1⟩, m1, h1, hx, k2, s2, m2, h2, h3⟩ := h
  simp only at hx h2
  subst hx
  refine ⟨max k k2, s2, m2, ?_, h3⟩
  simp only [runS, runS_le (Nat.le_max_left k k2) h1, Option.bind_some]
  exact runS_le (Nat.le_max_right k k2) h2
theorem wpS_cond {o : Operand} {a b : Code} {t : Bool} {e : Env} {H : Heap} {m : Md} {Q : Ex → Env → Heap → Md → Prop} (hc : evalO e o = some (.bool t)) (ht : t = true → WpS P A N a e H m Q) (hf : t = false → WpS P A N b e H m Q) : WpS P A N (.cond o a b) e H m Q := by
  cases t with
  | true => obtain ⟨k, s, m', h1, h2⟩ := ht rfl; exact ⟨k, s, m', by simp only [runS, hc]; exact h1, h2⟩
  | false => obtain ⟨k, s, m', h1, h2⟩ := hf rfl; exact ⟨k, s, m', by simp only [runS, hc]; exact h1, h2⟩
/-- what came back of a panic, kept in a variable -/
theorem wpS_rec {id t u : Nat} {o1 o2 : Oper} {e : Env} {H : Heap} {m : Md} {Q : Ex → Env → Heap → Md → Prop} (h1 : recoverC o1.op = true) (g1 : o1.guard = none) (d1 : o1.dst = some t) (h2 : o2.op = .assign (.tmp t)) (g2 : o2.guard = none) (d2 : o2.dst = some u)
    (ht : dstOk N (some t) = true) (hu : dstOk N (some u) = true) (hq : Q .norm (putO (putO e (some t) (recD m).1) (some u) (recD m).1) H (recD m).2) : WpS P A N (.region id #[o1, o2] false) e H m Q := by
  refine ⟨0, ⟨.norm, putO (putO e (some t) (recD m).1) (some u) (recD m).1, H⟩, (recD m).2, ?_, hq⟩
  have r2 : recoverC o2.op = false := by rw [h2]; rfl
  simp only [runS]
  rw [if_pos (by simp [h1])]
  have w1 : wantD #[o1, o2] e o1 = some true := by simp [wantD, g1]
  have w2 : ∀ e', wantD #[o1, o2] e' o2 = some true := fun e' => by simp [wantD, g2]
  have hs : stepOp P A (fun _ _ _ => none) o2.op (putO e (some t) (recD m).1) H = some (.ok (recD m).1 H) := by
    rw [h2]
    simp [stepOp, evalO, putO, put]
    try rfl
  have p2 : plainO o2.op = true := by rw [h2]; rfl
  simp only [runOpsS, d1, d2, ht, hu, Bool.true_eq_false, if_false, w1, w2, h1, r2, if_true, p2, hs, Bool.false_eq_true, Option.map_some]
/-- what is left of a function: its waiting calls -/
def LvQ (P : Program) (A : Ann) (rs : List ResultVar) (K Kp : D → Heap → Prop) (e : Env) (l : List Dfr) (m : Md) (H : Heap) : Prop :=
  ∃ k r, leaveD P A (fun N => runC P A (runF P A k) k N) rs e l m H = some r ∧ (match r with | .ok d H' => K d H' | .pan d H' => Kp d H')
variable {rs : List ResultVar} {K Kp : D → Heap → Prop} {e : Env} {H : Heap} {l : List Dfr}
theorem leaveQ_ret (hd : e.df = some l) (h : LvQ P A rs K Kp e l .ret H) : LeaveQ P A rs K Kp .ret e H := by
  obtain ⟨k, r, h1, h2⟩ := h
  exact ⟨l, k, r, hd, h1, h2⟩
theorem leaveQ_norm (hd : e.df = some l) (h : LvQ P A rs K Kp e l .ret H) : LeaveQ P A rs K Kp .norm e H := by
  obtain ⟨k, r, h1, h2⟩ := h
  exact ⟨l, k, r, hd, h1, h2⟩
theorem leaveQ_pan {d : D} (hd : e.df = some l) (h : LvQ P A rs K Kp e l (.pan d) H) : LeaveQ P A rs K Kp (.pan d) e H := by
  obtain ⟨k, r, h1, h2⟩ := h
  exact ⟨l, k, r, hd, h1, h2⟩
theorem lvQ_ret {ds : List D} (hr : resD P e H rs = some ds) (h : K (oneD ds) H) : LvQ P A rs K Kp e [] .ret H :=
  ⟨0, .ok (oneD ds) H, by simp [leaveD, hr], h⟩
theorem lvQ_pan {d : D} (h : Kp d H) : LvQ P A rs K Kp e [] (.pan d) H := ⟨0, .pan d H, by simp [leaveD], h⟩
theorem lvQ_call {f : FuncId} {fn : Func} {c : Code} {n : Nat} {args : List D} {m : Md} (hf : P.funcs[f]? = some fn) (hb : fn.body = some c) (hn : (fn.name == "runtime.NumGoroutine") = false) (hN : fn.ntmps = n) (hr : fn.results.toList = []) (ha : Nat.ble args.length n = true)
    (h : WpS P A n c (ofArgs args) H m (fun x e2 H2 m2 => (x = .norm ∨ x = .ret) ∧ e2.df = some [] ∧ LvQ P A rs K Kp e l m2.settle H2)) : LvQ P A rs K Kp e (.call f args :: l) m H := by
  subst hN
  obtain ⟨k, ⟨x, e2, H2⟩, m2, h1, hx, hdf, k2, r, h2, h3⟩ := h
  have ha' := Nat.le_of_ble_eq_true ha
  have hcond : ¬ ((fn.name == "runtime.NumGoroutine" || decide (args.length > fn.ntmps)) = true) := by simp [hn]; omega
  refine ⟨max k k2, r, ?_, h3⟩
  have q1 := runS_le (Nat.le_max_left k k2) h1
  have q2 := leaveD_mono (fun N c e H s hs => runRun_mono (P := P) (A := A) (Nat.le_max_right k k2) N c e H s hs) h2
  have hl : lastD P A (fun N => runC P A (runF P A (max k k2)) (max k k2) N) f args m H = some (m2.settle, H2) := by
    simp only at hx hdf
    have hno : noDf e2.df = true := by rw [hdf]; rfl
    simp only [lastD, hf, hb, if_neg hcond]
    rw [q1]
    simp only [Option.bind_some]
    rcases hx with rfl | rfl <;> simp [hno, hr, resD]
  have : leaveD P A (fun N => runC P A (runF P A (max k k2)) (max k k2) N) rs e (.call f args :: l) m H = (lastD P A (fun N => runC P A (runF P A (max k k2)) (max k k2) N) f args m H).bind fun (m, H) => leaveD P A (fun N => runC P A (runF P A (max k k2)) (max k k2) N) rs e l m H := by cases m <;> rfl
  rw [this, hl]
  exact q2
def pushF (P : Program) (e : Env) : Option (List Dfr) → Option (List D) → Option D → Option Env
  | some l, some args, some (.fn g cs) => if bodied P g then some ⟨e.f, some (.call g (args ++ cs) :: l)⟩ else none
  | _, _, _ => none
theorem pushD_eq {P : Program} {e : Env} {f : Operand} {args : Array Operand} {ts : Array TypeId} : pushD P e ⟨.value f, args, ts⟩ = pushF P e e.df (evalOs e args.toList) (evalO e f) := by
  unfold pushD
  cases h1 : e.df with
  | none => rfl
  | some l =>
    simp only [Option.bind_some]
    cases h2 : evalOs e args.toList with
    | none => rfl
    | some as1 =>
      simp only [Option.bind_some]
      cases h3 : evalO e f with
      | none => rfl
      | some d => cases d <;> rfl
theorem pushF_fn {P : Program} {e : Env} {l : List Dfr} {args cs : List D} {g : FuncId} : pushF P e (some l) (some args) (some (.fn g cs)) = if bodied P g then some ⟨e.f, some (.call g (args ++ cs) :: l)⟩ else none := rfl
attribute [go_sem] pushD_eq pushF_fn
end
end Vm
end
/- The reader of expressions: one byte, one letter, a set. -/
section
set_option maxHeartbeats 4000000
set_option linter.unusedVariables false
set_option linter.unusedSimpArgs false
namespace Go.Proofs.W
open Go Vm Go.Proofs.Zs05

def RdAt (H : Heap) (p : Nat) (s : List UInt8) (dp : Int) : Prop := hget H p = .arr [.agg [.str s, .int .i64 dp]]
/-- all that was there but the reader stays -/
structure Keep (p : Nat) (H H' : Heap) : Prop where
  len : H.length ≤ H'.length
  same : ∀ k, k < H.length → k ≠ p → hget H' k = hget H k
theorem Keep.refl {p : Nat} {H : Heap} : Keep p H H := ⟨Nat.le_refl _, fun _ _ _ => rfl⟩
theorem Keep.trans {p : Nat} {H H1 H2 : Heap} (h : Keep p H H1) (g : Keep p H1 H2) : Keep p H H2 := ⟨Nat.le_trans h.len g.len, fun k hk hp => by rw [g.same k (by have := h.len; omega) hp, h.same k hk hp]⟩
theorem Keep.set {p : Nat} {H : Heap} {o : Ob} : Keep p H (H.set p o) := ⟨by simp, fun k hk hp => hget_set_ne (by omega)⟩
theorem Keep.of_same {p : Nat} {H H' : Heap} (h : Same H.length H H') : Keep p H H' := ⟨h.1, fun k hk _ => h.2 k hk⟩
def first (s : List UInt8) : Int := (s.headD 0).toNat
theorem RdAt.lt {H : Heap} {p : Nat} {s : List UInt8} {dp : Int} (h : RdAt H p s dp) : p < H.length := lt_of_hget h
theorem next_ok {H : Heap} {p : Nat} {s : List UInt8} {dp : Int} (h : RdAt H p s dp) : EvF Tryd.prog A 66 [.ptr p 0 0] H (fun d H' => d = .int .u8 (first s) ∧ H' = H) (fun _ _ => False) := by
  refine evF_inB (n := 13) (rs := [.tmp 2]) Tryd.func66 rfl rfl rfl rfl rfl rfl ?_
  unfold RdAt at h
  cases s with
  | nil =>
    repeat' (first | refine wpB_seq ?_ | refine wpB_regionL rfl ?_ | refine wpB_block ?_ | refine wpB_skip ?_ | refine wpB_exit ?_ | refine wpB_ret ?_ | simp (maxSteps := 1000000) (dsimp := false) (disch := omega) only [go_sem, simprocAttr, *])
    refine wpB_cond (by simp (maxSteps := 1000000) (dsimp := false) (disch := omega) only [go_sem, simprocAttr, *]; exact rfl) (fun hb => ?_) (fun hb => ?_) <;> try simp (maxSteps := 1000000) (dsimp := false) (disch := omega) only [go_sem, simprocAttr, decide_eq_true_eq, decide_eq_false_iff_not, Bool.not_eq_true, Bool.not_eq_false, Int.not_lt, Int.not_le] at hb
    repeat' (first | refine wpB_seq ?_ | refine wpB_regionL rfl ?_ | refine wpB_block ?_ | refine wpB_skip ?_ | refine wpB_exit ?_ | refine wpB_ret ?_ | simp (maxSteps := 1000000) (dsimp := false) (disch := omega) only [go_sem, simprocAttr, *])
    rfl
  | cons c s =>
    repeat' (first | refine wpB_seq ?_ | refine wpB_regionL rfl ?_ | refine wpB_block ?_ | refine wpB_skip ?_ | refine wpB_exit ?_ | refine wpB_ret ?_ | simp (maxSteps := 1000000) (dsimp := false) (disch := omega) only [go_sem, simprocAttr, *])
    refine wpB_cond (by simp (maxSteps := 1000000) (dsimp := false) (disch := omega) only [go_sem, simprocAttr, *]; exact rfl) (fun hb => ?_) (fun hb => ?_) <;> try simp (maxSteps := 1000000) (dsimp := false) (disch := omega) only [go_sem, simprocAttr, decide_eq_true_eq, decide_eq_false_iff_not, Bool.not_eq_true, Bool.not_eq_false, Int.not_lt, Int.not_le] at hb
    repeat' (first | refine wpB_seq ?_ | refine wpB_regionL rfl ?_ | refine wpB_block ?_ | refine wpB_skip ?_ | refine wpB_exit ?_ | refine wpB_ret ?_ | simp (maxSteps := 1000000) (dsimp := false) (disch := omega) only [go_sem, simprocAttr, *])
    rfl
theorem take_yes {H : Heap} {p : Nat} {s : List UInt8} {dp : Int} (h : RdAt H p s dp) {c : Int} (hc : 0 < c) (hq : first s = c) : EvF Tryd.prog A 62 [.ptr p 0 0, .int .u8 c] H
    (fun d H' => d = .bool true ∧ Keep p H H' ∧ RdAt H' p (s.drop 1) dp) (fun _ _ => False) := by
  have hn := next_ok h
  have hp := h.lt
  have hrd : RdAt (H.set p (.arr [.agg [.str (s.drop 1), .int .i64 dp]])) p (s.drop 1) dp := hget_set_eq hp
  have hkeep : Keep p H (H.set p (.arr [.agg [.str (s.drop 1), .int .i64 dp]])) := Keep.set
  have hne : s ≠ [] := by rintro rfl; simp [first] at hq; omega
  have hl : 1 ≤ s.length := by cases s <;> simp at hne ⊢
  unfold RdAt at h
  refine evF_inB (n := 17) (rs := [.tmp 4]) Tryd.func62 rfl rfl rfl rfl rfl rfl ?_
  repeat' (first | refine wpB_seq ?_ | refine wpB_regionL rfl ?_ | refine wpB_block ?_ | refine wpB_skip ?_ | refine wpB_exit ?_ | refine wpB_ret ?_ | simp (maxSteps := 1000000) (dsimp := false) (disch := omega) only [go_sem, simprocAttr, *])
  refine evB_state bo66 rfl rfl hn ?_ (fun _ _ h => h.elim)
  rintro _ H' ⟨rfl, rfl⟩
  have hb : (c != c) = false := by simp
  simp (maxSteps := 1000000) (dsimp := false) (disch := omega) only [go_sem, simprocAttr, *]
  refine wpB_cond (by simp (maxSteps := 1000000) (dsimp := false) (disch := omega) only [go_sem, simprocAttr, *]; exact rfl) (fun hb2 => ?_) (fun hb2 => ?_) <;> try simp (maxSteps := 1000000) (dsimp := false) (disch := omega) only [go_sem, simprocAttr, decide_eq_true_eq, decide_eq_false_iff_not, Bool.not_eq_true, Bool.not_eq_false, Int.not_lt, Int.not_le] at hb2
  repeat' (first | refine wpB_seq ?_ | refine wpB_regionL rfl ?_ | refine wpB_block ?_ | refine wpB_skip ?_ | refine wpB_exit ?_ | refine wpB_ret ?_ | simp (maxSteps := 1000000) (dsimp := false) (disch := omega) only [go_sem, simprocAttr, *, List.take_length])
theorem take_no {H : Heap} {p : Nat} {s : List UInt8} {dp : Int} (h : RdAt H p s dp) {c : Int} (hq : ¬ first s = c) : EvF Tryd.prog A 62 [.ptr p 0 0, .int .u8 c] H
    (fun d H' => d = .bool false ∧ H' = H) (fun _ _ => False) := by
  have hn := next_ok h
  refine evF_inB (n := 17) (rs := [.tmp 4]) Tryd.func62 rfl rfl rfl rfl rfl rfl ?_
  repeat' (first | refine wpB_seq ?_ | refine wpB_regionL rfl ?_ | refine wpB_block ?_ | refine wpB_skip ?_ | refine wpB_exit ?_ | refine wpB_ret ?_ | simp (maxSteps := 1000000) (dsimp := false) (disch := omega) only [go_sem, simprocAttr, *])
  refine evB_state bo66 rfl rfl hn ?_ (fun _ _ h => h.elim)
  rintro _ H' ⟨rfl, rfl⟩
  simp (maxSteps := 1000000) (dsimp := false) (disch := omega) only [go_sem, simprocAttr, *]
  refine wpB_cond (by simp (maxSteps := 1000000) (dsimp := false) (disch := omega) only [go_sem, simprocAttr, *]; exact rfl) (fun hb2 => ?_) (fun hb2 => ?_) <;> try simp (maxSteps := 1000000) (dsimp := false) (disch := omega) only [go_sem, simprocAttr, decide_eq_true_eq, decide_eq_false_iff_not, Bool.not_eq_true, Bool.not_eq_false, Int.not_lt, Int.not_le] at hb2
  repeat' (first | refine wpB_seq ?_ | refine wpB_regionL rfl ?_ | refine wpB_block ?_ | refine wpB_skip ?_ | refine wpB_exit ?_ | refine wpB_ret ?_ | simp (maxSteps := 1000000) (dsimp := false) (disch := omega) only [go_sem, simprocAttr, *])
/-- what a reader gives up with -/
def wrongD : D := .iface 73 (.agg [])
def LetQ (p : Nat) (H : Heap) (s : List UInt8) (dp : Int) (d : D) (H' : Heap) : Prop := ∃ v, d = .int .u16 v ∧ 0 ≤ v ∧ v < 65536 ∧ s ≠ [] ∧ Keep p H H' ∧ RdAt H' p (s.drop 1) dp
def PanQ (p : Nat) (H : Heap) (d : D) (H' : Heap) : Prop := d = wrongD ∧ Keep p H H' ∧ ∃ s dp, RdAt H' p s dp
theorem bd_wrong : buildD Tryd.prog 73 [] = some (.agg []) := by kernel_rfl
attribute [go_sem] bd_wrong
theorem un_wrong : Tryd.prog.underlying 73 = some (.struct #[]) := by kernel_rfl
theorem mi_wrong {x : Operand} {e : Env} {H : Heap} {K Kp : D → Heap → Prop} : @Eq Prop (vOpB Tryd.prog A (.makeInterface 73 x) e H K Kp) (outB ((evalO e x).bind fun a => some (.ok (.iface 73 a) H)) K Kp) := by
  rw [vOpB_makeInterface]
  simp only [stepOp, un_wrong]
attribute [go_sem high] mi_wrong
theorem wrap16 (n : Int) : 0 ≤ IntKind.u16.wrap n ∧ IntKind.u16.wrap n < 65536 := by simp [IntKind.wrap, IntKind.bits, IntKind.signed]; omega
theorem letter_read {H : Heap} {p : Nat} {s : List UInt8} {dp : Int} (h : RdAt H p s dp) : EvF Tryd.prog A 71 [.ptr p 0 0] H (LetQ p H s dp) (PanQ p H) := by
  have hn := next_ok h
  have hp := h.lt
  have hpan : PanQ p H wrongD H := ⟨rfl, Keep.refl, _, _, h⟩
  have hrd : RdAt (H.set p (.arr [.agg [.str (s.drop 1), .int .i64 dp]])) p (s.drop 1) dp := hget_set_eq hp
  have hkeep : Keep p H (H.set p (.arr [.agg [.str (s.drop 1), .int .i64 dp]])) := Keep.set
  unfold RdAt at h
  refine evF_inB (n := 21) (rs := [.tmp 2]) Tryd.func71 rfl rfl rfl rfl rfl rfl ?_
  repeat' (first | refine wpB_seq ?_ | refine wpB_regionL rfl ?_ | refine wpB_block ?_ | refine wpB_skip ?_ | refine wpB_exit ?_ | refine wpB_ret ?_ | simp (maxSteps := 1000000) (dsimp := false) (disch := omega) only [go_sem, simprocAttr, *])
  refine evB_state bo66 rfl rfl hn ?_ (fun _ _ h => h.elim)
  rintro _ H' ⟨rfl, rfl⟩
  simp (maxSteps := 1000000) (dsimp := false) (disch := omega) only [go_sem, simprocAttr, *]
  refine evB_plain bo21 rfl rfl (strip1 strip_int) (categoryP_ok (first s)) ?_
  by_cases hc : 0 ≤ catZ (first s)
  · have hne : s ≠ [] := by
      rintro rfl
      exact absurd hc (by simp only [first]; decide +kernel)
    have hl : 1 ≤ s.length := by cases s <;> simp at hne ⊢
    simp (maxSteps := 1000000) (dsimp := false) (disch := omega) only [go_sem, simprocAttr, *]
    repeat' (first | refine wpB_seq ?_ | refine wpB_regionL rfl ?_ | refine wpB_block ?_ | refine wpB_skip ?_ | refine wpB_exit ?_ | refine wpB_ret ?_ | simp (maxSteps := 1000000) (dsimp := false) (disch := omega) only [go_sem, simprocAttr, *])
    refine wpB_cond (by simp (maxSteps := 1000000) (dsimp := false) (disch := omega) only [go_sem, simprocAttr, *]; exact rfl) (fun hb2 => ?_) (fun hb2 => ?_) <;> try simp (maxSteps := 1000000) (dsimp := false) (disch := omega) only [go_sem, simprocAttr, decide_eq_true_eq, decide_eq_false_iff_not, Bool.not_eq_true, Bool.not_eq_false, Int.not_lt, Int.not_le] at hb2
    repeat' (first | refine wpB_seq ?_ | refine wpB_regionL rfl ?_ | refine wpB_block ?_ | refine wpB_skip ?_ | refine wpB_exit ?_ | refine wpB_ret ?_ | simp (maxSteps := 1000000) (dsimp := false) (disch := omega) only [go_sem, simprocAttr, *, List.take_length])
    exact ⟨_, rfl, (wrap16 _).1, (wrap16 _).2, hne, hkeep, hrd⟩
  · simp (maxSteps := 1000000) (dsimp := false) (disch := omega) only [go_sem, simprocAttr, *]
    repeat' (first | refine wpB_seq ?_ | refine wpB_regionL rfl ?_ | refine wpB_block ?_ | refine wpB_skip ?_ | refine wpB_exit ?_ | refine wpB_ret ?_ | simp (maxSteps := 1000000) (dsimp := false) (disch := omega) only [go_sem, simprocAttr, *])
    refine wpB_cond (by simp (maxSteps := 1000000) (dsimp := false) (disch := omega) only [go_sem, simprocAttr, *]; exact rfl) (fun hb2 => ?_) (fun hb2 => ?_) <;> try simp (maxSteps := 1000000) (dsimp := false) (disch := omega) only [go_sem, simprocAttr, decide_eq_true_eq, decide_eq_false_iff_not, Bool.not_eq_true, Bool.not_eq_false, Int.not_lt, Int.not_le] at hb2
    repeat' (first | refine wpB_seq ?_ | refine wpB_regionL rfl ?_ | refine wpB_block ?_ | refine wpB_skip ?_ | refine wpB_exit ?_ | refine wpB_ret ?_ | simp (maxSteps := 1000000) (dsimp := false) (disch := omega) only [go_sem, simprocAttr, *])
    exact hpan
end Go.Proofs.W
end
/- The reader of expressions: nodes, sets. -/
section
set_option maxHeartbeats 4000000
set_option linter.unusedVariables false
set_option linter.unusedSimpArgs false
namespace Go.Proofs.W
open Go Vm Go.Proofs.Zs05

theorem pur_agg {k : Nat} {cs : List D} {H : Heap} (h : stripL cs = none) : pur (k + 1) H (.agg cs) = (purL (pur k) H cs).map fun (l, H) => (.agg l, H) := by
  conv => lhs; unfold Vm.pur
  simp only [strip, h, Option.map_none]
theorem pur_vec_strip {k q : Nat} {H : Heap} {xs ys : List D} (h : hget H q = .arr xs) (hs : stripL xs = some ys) : pur (k + 2) H (.vec q 0 xs.length) = some (.sl false ys, H.set q (.fro xs)) := by
  rw [pur_vec, h]
  simp only [Nat.zero_add, Nat.le_refl, if_true, List.drop_zero, List.take_length]
  rw [purL_strip hs]; rfl
/-- a node whose kids lie in memory, plain -/
theorem pur_node {k q : Nat} {H : Heap} {xs ys : List D} {a b : Int} (h : hget H q = .arr xs) (hs : stripL xs = some ys) : pur (k + 3) H (.agg [.int .u8 a, .int .u16 b, .vec q 0 xs.length]) = some (.agg [.int .u8 a, .int .u16 b, .sl false ys], H.set q (.fro xs)) := by
  rw [pur_agg (by simp [stripL, strip])]
  simp only [purL, pur_strip (show strip (.int .u8 a) = some (.int .u8 a) from rfl), pur_strip (show strip (.int .u16 b) = some (.int .u16 b) from rfl), pur_vec_strip h hs, Option.bind_some, Option.map_some]
theorem out_node {q n : Nat} {H : Heap} {xs ys : List D} {a b : Int} (h : hget H q = .arr xs) (hn : n = xs.length) (hs : stripL xs = some ys) : outPure H (.agg [.int .u8 a, .int .u16 b, .vec q 0 n]) = some (.agg [.int .u8 a, .int .u16 b, .sl false ys]) := by
  subst hn
  unfold outPure deepest
  rw [pur_node h hs]; rfl
theorem out_strip {H : Heap} {d : D} (h : strip d = some d) : outPure H d = some d := by
  unfold outPure deepest
  rw [pur_strip h]; rfl
theorem one_ok (k : Int) (r : Rx) : PureF Tryd.prog A 69 [.int .u8 k, rxD r] (rxD (.mk k 0 [r])) := by
  have c1 := rx_cells r
  have c2 := rx_aggQ r
  have c3 := rx_noTup r
  have c4 := strip_rx r
  have hd : rxD (.mk k 0 [r]) = .agg [.int .u8 k, .int .u16 0, .sl false [rxD r]] := rfl
  rw [hd]
  refine evF_inB (n := 9) (rs := [.cell 4 40]) Tryd.func69 rfl rfl rfl rfl rfl rfl ?_
  generalize rxD r = d at *
  repeat' (first | refine wpB_seq ?_ | refine wpB_regionL rfl ?_ | refine wpB_block ?_ | refine wpB_skip ?_ | refine wpB_exit ?_ | refine wpB_ret ?_ | simp (maxSteps := 1000000) (dsimp := false) (disch := omega) only [go_sem, simprocAttr, *])
  exact out_node (xs := [d]) rfl rfl (strip1 c4)
def tog (k : Int) : List Rx → Rx
  | [] => .mk 0 0 []
  | [x] => x
  | l => .mk k 0 l
theorem together_ok (k : Int) (l : List Rx) : PureF Tryd.prog A 63 [.int .u8 k, .sl false (rxDs l)] (rxD (tog k l)) := by
  have hlen := rxDs_len l
  refine evF_inB (n := 18) (rs := [.cell 4 40]) Tryd.func63 rfl rfl rfl rfl rfl rfl ?_
  match l with
  | [] =>
    have hd : rxD (tog k []) = .agg [.int .u8 0, .int .u16 0, .sl false []] := rfl
    rw [hd]
    repeat' (first | refine wpB_seq ?_ | refine wpB_regionL rfl ?_ | refine wpB_block ?_ | refine wpB_skip ?_ | refine wpB_exit ?_ | refine wpB_ret ?_ | simp (maxSteps := 1000000) (dsimp := false) (disch := omega) only [go_sem, simprocAttr, *, rxDs])
    refine wpB_cond (by simp (maxSteps := 1000000) (dsimp := false) (disch := omega) only [go_sem, simprocAttr, *]; exact rfl) (fun hb => ?_) (fun hb => ?_) <;> try simp (maxSteps := 1000000) (dsimp := false) (disch := omega) only [go_sem, simprocAttr, decide_eq_true_eq, decide_eq_false_iff_not, Bool.not_eq_true, Bool.not_eq_false, Int.not_lt, Int.not_le] at hb
    repeat' (first | refine wpB_seq ?_ | refine wpB_regionL rfl ?_ | refine wpB_block ?_ | refine wpB_skip ?_ | refine wpB_exit ?_ | refine wpB_ret ?_ | simp (maxSteps := 1000000) (dsimp := false) (disch := omega) only [go_sem, simprocAttr, *])
    rfl
  | [x] =>
    have c1 := rx_cells x
    have c2 := rx_aggQ x
    have c3 := rx_noTup x
    have c4 := strip_rx x
    have hd : rxD (tog k [x]) = rxD x := rfl
    have hx : (rxDs [x])[0]? = some (rxD x) := rfl
    rw [hd]
    simp only [rxDs] at hx hlen ⊢
    generalize rxD x = d at *
    repeat' (first | refine wpB_seq ?_ | refine wpB_regionL rfl ?_ | refine wpB_block ?_ | refine wpB_skip ?_ | refine wpB_exit ?_ | refine wpB_ret ?_ | simp (maxSteps := 1000000) (dsimp := false) (disch := omega) only [go_sem, simprocAttr, *])
    refine wpB_cond (by simp (maxSteps := 1000000) (dsimp := false) (disch := omega) only [go_sem, simprocAttr, *]; exact rfl) (fun hb => ?_) (fun hb => ?_) <;> try simp (maxSteps := 1000000) (dsimp := false) (disch := omega) only [go_sem, simprocAttr, decide_eq_true_eq, decide_eq_false_iff_not, Bool.not_eq_true, Bool.not_eq_false, Int.not_lt, Int.not_le] at hb
    repeat' (first | refine wpB_seq ?_ | refine wpB_regionL rfl ?_ | refine wpB_block ?_ | refine wpB_skip ?_ | refine wpB_exit ?_ | refine wpB_ret ?_ | simp (maxSteps := 1000000) (dsimp := false) (disch := omega) only [go_sem, simprocAttr, *])
    refine wpB_cond (by simp (maxSteps := 1000000) (dsimp := false) (disch := omega) only [go_sem, simprocAttr, *]; exact rfl) (fun hb2 => ?_) (fun hb2 => ?_) <;> try simp (maxSteps := 1000000) (dsimp := false) (disch := omega) only [go_sem, simprocAttr, decide_eq_true_eq, decide_eq_false_iff_not, Bool.not_eq_true, Bool.not_eq_false, Int.not_lt, Int.not_le] at hb2
    repeat' (first | refine wpB_seq ?_ | refine wpB_regionL rfl ?_ | refine wpB_block ?_ | refine wpB_skip ?_ | refine wpB_exit ?_ | refine wpB_ret ?_ | simp (maxSteps := 1000000) (dsimp := false) (disch := omega) only [go_sem, simprocAttr, *])
    exact out_strip c4
  | x :: y :: l =>
    have hd : rxD (tog k (x :: y :: l)) = .agg [.int .u8 k, .int .u16 0, .sl false (rxDs (x :: y :: l))] := rfl
    have hst := strip_rxs (x :: y :: l)
    rw [hd]
    have h2 : 2 ≤ (rxDs (x :: y :: l)).length := by rw [hlen]; simp
    generalize rxDs (x :: y :: l) = xs at *
    repeat' (first | refine wpB_seq ?_ | refine wpB_regionL rfl ?_ | refine wpB_block ?_ | refine wpB_skip ?_ | refine wpB_exit ?_ | refine wpB_ret ?_ | simp (maxSteps := 1000000) (dsimp := false) (disch := omega) only [go_sem, simprocAttr, *])
    refine wpB_cond (by simp (maxSteps := 1000000) (dsimp := false) (disch := omega) only [go_sem, simprocAttr, *]; exact rfl) (fun hb => ?_) (fun hb => ?_) <;> try simp (maxSteps := 1000000) (dsimp := false) (disch := omega) only [go_sem, simprocAttr, decide_eq_true_eq, decide_eq_false_iff_not, Bool.not_eq_true, Bool.not_eq_false, Int.not_lt, Int.not_le] at hb
    repeat' (first | refine wpB_seq ?_ | refine wpB_regionL rfl ?_ | refine wpB_block ?_ | refine wpB_skip ?_ | refine wpB_exit ?_ | refine wpB_ret ?_ | simp (maxSteps := 1000000) (dsimp := false) (disch := omega) only [go_sem, simprocAttr, *])
    refine wpB_cond (by simp (maxSteps := 1000000) (dsimp := false) (disch := omega) only [go_sem, simprocAttr, *]; exact rfl) (fun hb2 => ?_) (fun hb2 => ?_) <;> try simp (maxSteps := 1000000) (dsimp := false) (disch := omega) only [go_sem, simprocAttr, decide_eq_true_eq, decide_eq_false_iff_not, Bool.not_eq_true, Bool.not_eq_false, Int.not_lt, Int.not_le] at hb2
    repeat' (first | refine wpB_seq ?_ | refine wpB_regionL rfl ?_ | refine wpB_block ?_ | refine wpB_skip ?_ | refine wpB_exit ?_ | refine wpB_ret ?_ | simp (maxSteps := 1000000) (dsimp := false) (disch := omega) only [go_sem, simprocAttr, *])
    exact out_strip (by simp [strip, stripL, hst])
/-- the length of the text that is left -/
def rdLen (p : Nat) (H : Heap) : Nat := match hget H p with
  | .arr [.agg [.str s, _]] => s.length
  | _ => 0
theorem rdLen_of {p : Nat} {H : Heap} {s : List UInt8} {dp : Int} (h : RdAt H p s dp) : rdLen p H = s.length := by unfold RdAt at h; simp [rdLen, h]
theorem PanQ.of {p : Nat} {H H1 H' : Heap} {d : D} (h : PanQ p H1 d H') (g : Keep p H H1) : PanQ p H d H' := ⟨h.1, g.trans h.2.1, h.2.2⟩
def SetQ (p : Nat) (H : Heap) (s : List UInt8) (d : D) (H' : Heap) : Prop := ∃ v s' dp', d = .int .u16 v ∧ 0 ≤ v ∧ v < 65536 ∧ Keep p H H' ∧ RdAt H' p s' dp' ∧ s'.length < s.length
theorem drop_lt {s : List UInt8} (h : s ≠ []) : (s.drop 1).length < s.length := by cases s <;> simp at h ⊢
theorem set_read {H : Heap} {p : Nat} {s : List UInt8} {dp : Int} (h : RdAt H p s dp) : EvF Tryd.prog A 70 [.ptr p 0 0] H (SetQ p H s) (PanQ p H) := by
  have hl := letter_read h
  refine evF_inB (n := 22) (rs := [.tmp 2]) Tryd.func70 rfl rfl rfl rfl rfl rfl ?_
  repeat' (first | refine wpB_seq ?_ | refine wpB_regionL rfl ?_ | refine wpB_block ?_ | refine wpB_skip ?_ | refine wpB_exit ?_ | refine wpB_ret ?_ | simp (maxSteps := 1000000) (dsimp := false) (disch := omega) only [go_sem, simprocAttr, *])
  refine evB_state bo71 rfl rfl hl ?_ (fun _ _ hp => ?_)
  · rintro _ H1 ⟨v, rfl, hv0, hv1, hne, hk, hr⟩
    have hlt := drop_lt hne
    simp (maxSteps := 1000000) (dsimp := false) (disch := omega) only [go_sem, simprocAttr, *]
    repeat' (first | refine wpB_seq ?_ | refine wpB_regionL rfl ?_ | refine wpB_block ?_ | refine wpB_skip ?_ | refine wpB_exit ?_ | refine wpB_ret ?_ | simp (maxSteps := 1000000) (dsimp := false) (disch := omega) only [go_sem, simprocAttr, *])
    refine wpB_loop (fun e Hx => ∃ (v : Int) (s1 : List UInt8) (dp : Int), e 0 = .ptr p 0 0 ∧ e 3 = .int .u16 v ∧ 0 ≤ v ∧ v < 65536 ∧ Keep p H Hx ∧ RdAt Hx p s1 dp ∧ s1.length < s.length) (fun e Hx => rdLen p Hx) ?_ ?_
    · exact ⟨v, _, _, by simp (maxSteps := 1000000) (dsimp := false) (disch := omega) only [go_sem, simprocAttr, *], by simp (maxSteps := 1000000) (dsimp := false) (disch := omega) only [go_sem, simprocAttr, *], hv0, hv1, hk, hr, hlt⟩
    · clear hl hk hr hlt hv0 hv1
      rintro e Hx ⟨v, s1, dp, e0, e3, hv0, hv1, hk, hr, hlt⟩ R hR
      by_cases hq : first s1 = 93
      · repeat' (first | refine wpB_seq ?_ | refine wpB_regionL rfl ?_ | refine wpB_block ?_ | refine wpB_skip ?_ | refine wpB_exit ?_ | refine wpB_ret ?_ | simp (maxSteps := 1000000) (dsimp := false) (disch := omega) only [go_sem, simprocAttr, *])
        refine evB_state bo62 rfl rfl (take_yes hr (by decide) hq) ?_ (fun _ _ h => h.elim)
        rintro _ Hy ⟨rfl, hk2, hr2⟩
        simp (maxSteps := 1000000) (dsimp := false) (disch := omega) only [go_sem, simprocAttr, *]
        refine wpB_cond (by simp (maxSteps := 1000000) (dsimp := false) (disch := omega) only [go_sem, simprocAttr, *]; exact rfl) (fun hb => ?_) (fun hb => ?_) <;> try simp (maxSteps := 1000000) (dsimp := false) (disch := omega) only [go_sem, simprocAttr, decide_eq_true_eq, decide_eq_false_iff_not, Bool.not_eq_true, Bool.not_eq_false, Int.not_lt, Int.not_le] at hb
        repeat' (first | refine wpB_seq ?_ | refine wpB_regionL rfl ?_ | refine wpB_block ?_ | refine wpB_skip ?_ | refine wpB_exit ?_ | refine wpB_ret ?_ | simp (maxSteps := 1000000) (dsimp := false) (disch := omega) only [go_sem, simprocAttr, *])
        exact ⟨v, _, _, rfl, hv0, hv1, hk.trans hk2, hr2, by simp; omega⟩
      · repeat' (first | refine wpB_seq ?_ | refine wpB_regionL rfl ?_ | refine wpB_block ?_ | refine wpB_skip ?_ | refine wpB_exit ?_ | refine wpB_ret ?_ | simp (maxSteps := 1000000) (dsimp := false) (disch := omega) only [go_sem, simprocAttr, *])
        refine evB_state bo62 rfl rfl (take_no hr hq) ?_ (fun _ _ h => h.elim)
        rintro _ Hy ⟨rfl, rfl⟩
        simp (maxSteps := 1000000) (dsimp := false) (disch := omega) only [go_sem, simprocAttr, *]
        refine wpB_cond (by simp (maxSteps := 1000000) (dsimp := false) (disch := omega) only [go_sem, simprocAttr, *]; exact rfl) (fun hb => ?_) (fun hb => ?_) <;> try simp (maxSteps := 1000000) (dsimp := false) (disch := omega) only [go_sem, simprocAttr, decide_eq_true_eq, decide_eq_false_iff_not, Bool.not_eq_true, Bool.not_eq_false, Int.not_lt, Int.not_le] at hb
        repeat' (first | refine wpB_seq ?_ | refine wpB_regionL rfl ?_ | refine wpB_block ?_ | refine wpB_skip ?_ | refine wpB_exit ?_ | refine wpB_ret ?_ | simp (maxSteps := 1000000) (dsimp := false) (disch := omega) only [go_sem, simprocAttr, *])
        refine evB_state bo71 rfl rfl (letter_read hr) ?_ (fun _ _ hp => ?_)
        · rintro _ Hy ⟨v2, rfl, hw0, hw1, hne, hk2, hr2⟩
          have hlt2 := drop_lt hne
          simp (maxSteps := 1000000) (dsimp := false) (disch := omega) only [go_sem, simprocAttr, *]
          repeat' (first | refine wpB_seq ?_ | refine wpB_regionL rfl ?_ | refine wpB_block ?_ | refine wpB_skip ?_ | refine wpB_exit ?_ | refine wpB_ret ?_ | simp (maxSteps := 1000000) (dsimp := false) (disch := omega) only [go_sem, simprocAttr, *])
          have hpan : PanQ p H wrongD Hy := ⟨rfl, hk.trans hk2, _, _, hr2⟩
          refine wpB_cond (by simp (maxSteps := 1000000) (dsimp := false) (disch := omega) only [go_sem, simprocAttr, *]; exact rfl) (fun hb2 => ?_) (fun hb2 => ?_) <;> try simp (maxSteps := 1000000) (dsimp := false) (disch := omega) only [go_sem, simprocAttr, decide_eq_true_eq, decide_eq_false_iff_not, Bool.not_eq_true, Bool.not_eq_false, Int.not_lt, Int.not_le] at hb2
          · repeat' (first | refine wpB_seq ?_ | refine wpB_regionL rfl ?_ | refine wpB_block ?_ | refine wpB_skip ?_ | refine wpB_exit ?_ | refine wpB_ret ?_ | simp (maxSteps := 1000000) (dsimp := false) (disch := omega) only [go_sem, simprocAttr, *])
            exact hpan
          · repeat' (first | refine wpB_seq ?_ | refine wpB_regionL rfl ?_ | refine wpB_block ?_ | refine wpB_skip ?_ | refine wpB_exit ?_ | refine wpB_ret ?_ | simp (maxSteps := 1000000) (dsimp := false) (disch := omega) only [go_sem, simprocAttr, *])
            refine hR _ _ ⟨_, _, _, by simp (maxSteps := 1000000) (dsimp := false) (disch := omega) only [go_sem, simprocAttr, *], by simp (maxSteps := 1000000) (dsimp := false) (disch := omega) only [go_sem, simprocAttr, *]; rfl, (wrap16 _).1, (wrap16 _).2, hk.trans hk2, hr2, by omega⟩ ?_
            rw [rdLen_of hr, rdLen_of hr2]; exact hlt2
        · simp (maxSteps := 1000000) (dsimp := false) (disch := omega) only [go_sem, simprocAttr, *]
          exact hp.of hk
  · simp (maxSteps := 1000000) (dsimp := false) (disch := omega) only [go_sem, simprocAttr, *]
end Go.Proofs.W
end
/- The reader of expressions: whole expressions. -/
section
set_option maxHeartbeats 4000000
set_option linter.unusedVariables false
set_option linter.unusedSimpArgs false
namespace Go.Proofs.W
open Go Vm Go.Proofs.Zs05

/-- an expression as it is held: plain, but for lists that may be none -/
def RxV (d : D) (r : Rx) : Prop := ∃ f xs, d = .agg [.int .u8 r.k, .int .u16 r.s, .sl f xs] ∧ stripL xs = some (rxDs r.kids)
theorem RxV.strip {d : D} {r : Rx} (h : RxV d r) : Vm.strip d = some (rxD r) := by
  obtain ⟨f, xs, rfl, hs⟩ := h
  cases r with | mk k s l => simp only [Rx.kids] at hs; simp only [Vm.strip, stripL, hs, Option.map_some, Option.bind_some, Rx.k, Rx.s, rx_mk]
theorem RxV.cells {d : D} {r : Rx} (h : RxV d r) : d.cells.length = 3 := by obtain ⟨f, xs, rfl, hs⟩ := h; rfl
theorem RxV.aggQ {d : D} {r : Rx} (h : RxV d r) : Vm.aggQ d = true := by obtain ⟨f, xs, rfl, hs⟩ := h; rfl
theorem RxV.noTup {d : D} {r : Rx} (h : RxV d r) : Vm.noTup d = true := by obtain ⟨f, xs, rfl, hs⟩ := h; rfl
theorem rxV_self (r : Rx) : RxV (rxD r) r := by cases r with | mk k s l => exact ⟨false, _, rfl, strip_rxs l⟩
/-- how long lists may be: below the text's length -/
def RxQ (p : Nat) (H : Heap) (n : Nat) (d : D) (H' : Heap) : Prop := ∃ r s' dp', RxV d r ∧ okR r ∧ Keep p H H' ∧ RdAt H' p s' dp' ∧ s'.length < n
def ExprOk (n : Nat) : Prop := ∀ (H : Heap) (p : Nat) (s : List UInt8) (dp : Int), s.length < n → RdAt H p s dp → EvF Tryd.prog A 52 [.ptr p 0 0] H (RxQ p H (s.length + 1)) (PanQ p H)
theorem Keep.app {p : Nat} {H H1 L : Heap} (h : Keep p H H1) : Keep p H (H1 ++ L) := ⟨by have := h.len; simp; omega, fun k hk hp => by rw [hget_app_lt (by have := h.len; omega), h.same k hk hp]⟩
theorem Keep.high {p m : Nat} {H H1 : Heap} {o : Ob} (h : Keep p H H1) (hm : H.length ≤ m) : Keep p H (H1.set m o) := ⟨by have := h.len; simp; omega, fun k hk hp => by rw [hget_set_ne (by omega), h.same k hk hp]⟩
theorem RdAt.app {H L : Heap} {p : Nat} {s : List UInt8} {dp : Int} (h : RdAt H p s dp) : RdAt (H ++ L) p s dp := by have := h.lt; unfold RdAt at h ⊢; rw [hget_app_lt this, h]
theorem RdAt.high {H : Heap} {p m : Nat} {s : List UInt8} {dp : Int} {o : Ob} (h : RdAt H p s dp) (hm : m ≠ p) : RdAt (H.set m o) p s dp := by unfold RdAt at h ⊢; rw [hget_set_ne hm, h]
theorem atom_read {n : Nat} (hE : ExprOk n) {H : Heap} {p : Nat} {s : List UInt8} {dp : Int} (hn : s.length ≤ n) (hn2 : n ≤ 100000) (h : RdAt H p s dp) : EvF Tryd.prog A 68 [.ptr p 0 0] H (RxQ p H s.length) (PanQ p H) := by
  have hp := h.lt
  have hset : ∀ v : Int, 0 ≤ v ∧ v < 65536 → okR (.mk 1 v []) := fun v hv => ⟨by decide, by decide, hv.1, hv.2, by decide, trivial⟩
  have hrv : ∀ v : Int, RxV (.agg [.int .u8 1, .int .u16 v, .sl true []]) (.mk 1 v []) := fun v => ⟨true, [], rfl, rfl⟩
  refine evF_inB (n := 24) (rs := [.cell 2 40]) Tryd.func68 rfl rfl rfl rfl rfl rfl ?_
  (refine wpB_seq ?_; refine wpB_regionL rfl ?_; simp (maxSteps := 1000000) (dsimp := false) (disch := omega) only [go_sem, simprocAttr, *])
  refine wpB_heap (fun H1 => Keep p H H1 ∧ RdAt H1 p s dp ∧ hget H1 H.length = .arr [.agg [.int .u8 0, .int .u16 0, .sl true []]]) ?_ ?_
  · exact ⟨Keep.refl.app, h.app, hget_new⟩
  · rintro H1 ⟨hk, hr, ho⟩
    have hm : H.length ≠ p := by omega
    generalize hmm : H.length = m at *
    by_cases q1 : first s = 91
    · repeat' (first | refine wpB_seq ?_ | refine wpB_regionL rfl ?_ | refine wpB_block ?_ | refine wpB_skip ?_ | refine wpB_exit ?_ | refine wpB_ret ?_ | simp (maxSteps := 1000000) (dsimp := false) (disch := omega) only [go_sem, simprocAttr, *])
      refine evB_state bo62 rfl rfl (take_yes hr (by decide) q1) ?_ (fun _ _ h => h.elim)
      rintro _ H2 ⟨rfl, hk2, hr2⟩
      have hne : s ≠ [] := by rintro rfl; simp [first] at q1
      have hlt := drop_lt hne
      have ho2 : hget H2 m = .arr [.agg [.int .u8 0, .int .u16 0, .sl true []]] := by rw [hk2.same m (lt_of_hget ho) hm, ho]
      have hk2 := hk.trans hk2
      clear hk hr ho h
      simp (maxSteps := 1000000) (dsimp := false) (disch := omega) only [go_sem, simprocAttr, *]
      refine wpB_cond (by simp (maxSteps := 1000000) (dsimp := false) (disch := omega) only [go_sem, simprocAttr, *]; exact rfl) (fun hb => ?_) (fun hb => ?_) <;> try simp (maxSteps := 1000000) (dsimp := false) (disch := omega) only [go_sem, simprocAttr, decide_eq_true_eq, decide_eq_false_iff_not, Bool.not_eq_true, Bool.not_eq_false, Int.not_lt, Int.not_le] at hb
      repeat' (first | refine wpB_seq ?_ | refine wpB_regionL rfl ?_ | refine wpB_block ?_ | refine wpB_skip ?_ | refine wpB_exit ?_ | refine wpB_ret ?_ | simp (maxSteps := 1000000) (dsimp := false) (disch := omega) only [go_sem, simprocAttr, *])
      refine evB_state bo70 rfl rfl (set_read hr2) ?_ (fun _ _ hp => ?_)
      · rintro _ H3 ⟨v, s3, dp3, rfl, hv0, hv1, hk3, hr3, hlt3⟩
        have ho3 : hget H3 m = .arr [.agg [.int .u8 0, .int .u16 0, .sl true []]] := by rw [hk3.same m (lt_of_hget ho2) hm, ho2]
        have hlm := lt_of_hget ho3
        have hk3 := hk2.trans hk3
        clear hk2 hr2 ho2
        simp (maxSteps := 1000000) (dsimp := false) (disch := omega) only [go_sem, simprocAttr, *]
        repeat' (first | refine wpB_seq ?_ | refine wpB_regionL rfl ?_ | refine wpB_block ?_ | refine wpB_skip ?_ | refine wpB_exit ?_ | refine wpB_ret ?_ | simp (maxSteps := 1000000) (dsimp := false) (disch := omega) only [go_sem, simprocAttr, *])
        exact ⟨_, s3, dp3, hrv v, hset v ⟨hv0, hv1⟩, hk3.high (by omega), hr3.high hm, by omega⟩
      · simp (maxSteps := 1000000) (dsimp := false) (disch := omega) only [go_sem, simprocAttr, *]
        exact hp.of hk2
    · repeat' (first | refine wpB_seq ?_ | refine wpB_regionL rfl ?_ | refine wpB_block ?_ | refine wpB_skip ?_ | refine wpB_exit ?_ | refine wpB_ret ?_ | simp (maxSteps := 1000000) (dsimp := false) (disch := omega) only [go_sem, simprocAttr, *])
      refine evB_state bo62 rfl rfl (take_no hr q1) ?_ (fun _ _ h => h.elim)
      rintro _ H2 ⟨rfl, rfl⟩
      simp (maxSteps := 1000000) (dsimp := false) (disch := omega) only [go_sem, simprocAttr, *]
      refine wpB_cond (by simp (maxSteps := 1000000) (dsimp := false) (disch := omega) only [go_sem, simprocAttr, *]; exact rfl) (fun hb => ?_) (fun hb => ?_) <;> try simp (maxSteps := 1000000) (dsimp := false) (disch := omega) only [go_sem, simprocAttr, decide_eq_true_eq, decide_eq_false_iff_not, Bool.not_eq_true, Bool.not_eq_false, Int.not_lt, Int.not_le] at hb
      repeat' (first | refine wpB_seq ?_ | refine wpB_regionL rfl ?_ | refine wpB_block ?_ | refine wpB_skip ?_ | refine wpB_exit ?_ | refine wpB_ret ?_ | simp (maxSteps := 1000000) (dsimp := false) (disch := omega) only [go_sem, simprocAttr, *])
      by_cases q2 : first s = 40
      · refine evB_state bo62 rfl rfl (take_yes hr (by decide) q2) ?_ (fun _ _ h => h.elim)
        rintro _ H2 ⟨rfl, hk2, hr2⟩
        have hne : s ≠ [] := by rintro rfl; simp [first] at q2
        have hlt := drop_lt hne
        have ho2 : hget H2 m = .arr [.agg [.int .u8 0, .int .u16 0, .sl true []]] := by rw [hk2.same m (lt_of_hget ho) hm, ho]
        have hk2 := hk.trans hk2
        clear hk hr ho h
        simp (maxSteps := 1000000) (dsimp := false) (disch := omega) only [go_sem, simprocAttr, *]
        refine wpB_cond (by simp (maxSteps := 1000000) (dsimp := false) (disch := omega) only [go_sem, simprocAttr, *]; exact rfl) (fun hb => ?_) (fun hb => ?_) <;> try simp (maxSteps := 1000000) (dsimp := false) (disch := omega) only [go_sem, simprocAttr, decide_eq_true_eq, decide_eq_false_iff_not, Bool.not_eq_true, Bool.not_eq_false, Int.not_lt, Int.not_le] at hb
        repeat' (first | refine wpB_seq ?_ | refine wpB_regionL rfl ?_ | refine wpB_block ?_ | refine wpB_skip ?_ | refine wpB_exit ?_ | refine wpB_ret ?_ | simp (maxSteps := 1000000) (dsimp := false) (disch := omega) only [go_sem, simprocAttr, *])
        refine evB_state bo52 rfl rfl (hE _ p _ _ (by omega) hr2) ?_ (fun _ _ hp => ?_)
        · rintro d H3 ⟨r, s3, dp3, hd, hok, hk3, hr3, hlt3⟩
          have ho3 : hget H3 m = .arr [.agg [.int .u8 0, .int .u16 0, .sl true []]] := by rw [hk3.same m (lt_of_hget ho2) hm, ho2]
          have hlm := lt_of_hget ho3
          have hk3 := hk2.trans hk3
          have c1 := hd.cells
          have c2 := hd.aggQ
          have c3 := hd.noTup
          clear hk2 hr2 ho2
          simp (maxSteps := 1000000) (dsimp := false) (disch := omega) only [go_sem, simprocAttr, *]
          repeat' (first | refine wpB_seq ?_ | refine wpB_regionL rfl ?_ | refine wpB_block ?_ | refine wpB_skip ?_ | refine wpB_exit ?_ | refine wpB_ret ?_ | simp (maxSteps := 1000000) (dsimp := false) (disch := omega) only [go_sem, simprocAttr, *])
          have hl3 : p < H3.length := by have := hr3.lt; omega
          have hr4 : RdAt (H3 ++ [Ob.arr [d]]) p s3 dp3 := hr3.app
          have ho4 : hget (H3 ++ [Ob.arr [d]]) m = .arr [.agg [.int .u8 0, .int .u16 0, .sl true []]] := by rw [hget_app_lt hlm, ho3]
          have hd4 : hget (H3 ++ [Ob.arr [d]]) H3.length = .arr [d] := hget_new
          have hk4 : Keep p H (H3 ++ [Ob.arr [d]]) := hk3.app
          have hl4 : H3.length < (H3 ++ [Ob.arr [d]]).length := by simp
          have hl5 : m < (H3 ++ [Ob.arr [d]]).length := by simp; omega
          generalize H3 ++ [Ob.arr [d]] = H4 at *
          clear hr3 ho3 hk3
          by_cases q3 : first s3 = 41
          · refine evB_state bo62 rfl rfl (take_yes hr4 (by decide) q3) ?_ (fun _ _ h => h.elim)
            rintro _ H5 ⟨rfl, hk5, hr5⟩
            have ho5 : hget H5 m = .arr [.agg [.int .u8 0, .int .u16 0, .sl true []]] := by rw [hk5.same m hl5 hm, ho4]
            have hd5 : hget H5 H3.length = .arr [d] := by rw [hk5.same _ hl4 (by omega), hd4]
            have hk5 := hk4.trans hk5
            have hl6 := lt_of_hget ho5
            clear ho4 hd4 hk4 hr4
            simp (maxSteps := 1000000) (dsimp := false) (disch := omega) only [go_sem, simprocAttr, *]
            refine wpB_cond (by simp (maxSteps := 1000000) (dsimp := false) (disch := omega) only [go_sem, simprocAttr, *]; exact rfl) (fun hb => ?_) (fun hb => ?_) <;> try simp (maxSteps := 1000000) (dsimp := false) (disch := omega) only [go_sem, simprocAttr, decide_eq_true_eq, decide_eq_false_iff_not, Bool.not_eq_true, Bool.not_eq_false, Int.not_lt, Int.not_le] at hb
            repeat' (first | refine wpB_seq ?_ | refine wpB_regionL rfl ?_ | refine wpB_block ?_ | refine wpB_skip ?_ | refine wpB_exit ?_ | refine wpB_ret ?_ | simp (maxSteps := 1000000) (dsimp := false) (disch := omega) only [go_sem, simprocAttr, *])
            exact ⟨r, _, dp3, hd, hok, hk5.high (by omega), hr5.high hm, by simp only [List.length_drop] at *; omega⟩
          · refine evB_state bo62 rfl rfl (take_no hr4 q3) ?_ (fun _ _ h => h.elim)
            rintro _ H5 ⟨rfl, rfl⟩
            simp (maxSteps := 1000000) (dsimp := false) (disch := omega) only [go_sem, simprocAttr, *]
            refine wpB_cond (by simp (maxSteps := 1000000) (dsimp := false) (disch := omega) only [go_sem, simprocAttr, *]; exact rfl) (fun hb => ?_) (fun hb => ?_) <;> try simp (maxSteps := 1000000) (dsimp := false) (disch := omega) only [go_sem, simprocAttr, decide_eq_true_eq, decide_eq_false_iff_not, Bool.not_eq_true, Bool.not_eq_false, Int.not_lt, Int.not_le] at hb
            repeat' (first | refine wpB_seq ?_ | refine wpB_regionL rfl ?_ | refine wpB_block ?_ | refine wpB_skip ?_ | refine wpB_exit ?_ | refine wpB_ret ?_ | simp (maxSteps := 1000000) (dsimp := false) (disch := omega) only [go_sem, simprocAttr, *])
            exact ⟨rfl, hk4, _, _, hr4⟩
        · simp (maxSteps := 1000000) (dsimp := false) (disch := omega) only [go_sem, simprocAttr, *]
          exact hp.of hk2
      · refine evB_state bo62 rfl rfl (take_no hr q2) ?_ (fun _ _ h => h.elim)
        rintro _ H2 ⟨rfl, rfl⟩
        simp (maxSteps := 1000000) (dsimp := false) (disch := omega) only [go_sem, simprocAttr, *]
        refine wpB_cond (by simp (maxSteps := 1000000) (dsimp := false) (disch := omega) only [go_sem, simprocAttr, *]; exact rfl) (fun hb => ?_) (fun hb => ?_) <;> try simp (maxSteps := 1000000) (dsimp := false) (disch := omega) only [go_sem, simprocAttr, decide_eq_true_eq, decide_eq_false_iff_not, Bool.not_eq_true, Bool.not_eq_false, Int.not_lt, Int.not_le] at hb
        repeat' (first | refine wpB_seq ?_ | refine wpB_regionL rfl ?_ | refine wpB_block ?_ | refine wpB_skip ?_ | refine wpB_exit ?_ | refine wpB_ret ?_ | simp (maxSteps := 1000000) (dsimp := false) (disch := omega) only [go_sem, simprocAttr, *])
        refine evB_state bo71 rfl rfl (letter_read hr) ?_ (fun _ _ hp => ?_)
        · rintro _ H3 ⟨v, rfl, hv0, hv1, hne, hk3, hr3⟩
          have ho3 : hget H3 m = .arr [.agg [.int .u8 0, .int .u16 0, .sl true []]] := by rw [hk3.same m (lt_of_hget ho) hm, ho]
          have hlm := lt_of_hget ho3
          have hlt := drop_lt hne
          have hk3 := hk.trans hk3
          clear hk hr ho
          simp (maxSteps := 1000000) (dsimp := false) (disch := omega) only [go_sem, simprocAttr, *]
          repeat' (first | refine wpB_seq ?_ | refine wpB_regionL rfl ?_ | refine wpB_block ?_ | refine wpB_skip ?_ | refine wpB_exit ?_ | refine wpB_ret ?_ | simp (maxSteps := 1000000) (dsimp := false) (disch := omega) only [go_sem, simprocAttr, *])
          exact ⟨_, _, dp, hrv v, hset v ⟨hv0, hv1⟩, hk3.high (by omega), hr3.high hm, hlt⟩
        · simp (maxSteps := 1000000) (dsimp := false) (disch := omega) only [go_sem, simprocAttr, *]
          exact hp.of hk
theorem evB_str {f : FuncId} {args bs : List D} {d : D} {H : Heap} {K Kp : D → Heap → Prop} (hb : bodied Tryd.prog f = true) (hp : A.prim f = none) (hm : A.mode f = .pure) (ha : stripL args = some bs) (h : PureF Tryd.prog A f bs d) (k : PP (K d H)) : EvB Tryd.prog A f args H K Kp :=
  evB_pure hb hp hm (pures_strip ha) h (by simpa only [ite_self] using k)
theorem okR_one {k : Int} {r : Rx} (hk : 0 ≤ k ∧ k < 256) (h : okR r) : okR (.mk k 0 [r]) := ⟨hk.1, hk.2, by decide, by decide, by simp, h, trivial⟩
/-- what an item leaves: plain, or two plain ones in memory -/
def ItQ (p : Nat) (H : Heap) (n : Nat) (d : D) (H' : Heap) : Prop := ∃ r s' dp', (RxV d r ∨ ∃ q x y, H.length ≤ q ∧ d = .agg [.int .u8 2, .int .u16 0, .vec q 0 2] ∧ hget H' q = .arr [x, y] ∧ stripL [x, y] = some (rxDs r.kids) ∧ r.k = 2 ∧ r.s = 0) ∧ okR r ∧ Keep p H H' ∧ RdAt H' p s' dp' ∧ s'.length < n
theorem item_read {n : Nat} (hE : ExprOk n) {H : Heap} {p : Nat} {s : List UInt8} {dp : Int} (hn : s.length ≤ n) (hn2 : n ≤ 100000) (h : RdAt H p s dp) : EvF Tryd.prog A 67 [.ptr p 0 0] H (ItQ p H s.length) (PanQ p H) := by
  have hp := h.lt
  refine evF_inB (n := 25) (rs := [.cell 2 40]) Tryd.func67 rfl rfl rfl rfl rfl rfl ?_
  (refine wpB_seq ?_; refine wpB_regionL rfl ?_; simp (maxSteps := 1000000) (dsimp := false) (disch := omega) only [go_sem, simprocAttr, *])
  refine wpB_heap (fun H1 => Keep p H H1 ∧ RdAt H1 p s dp ∧ hget H1 H.length = .arr [.agg [.int .u8 0, .int .u16 0, .sl true []]]) ?_ ?_
  · exact ⟨Keep.refl.app, h.app, hget_new⟩
  · rintro H1 ⟨hk, hr, ho⟩
    have hm : H.length ≠ p := by omega
    generalize hmm : H.length = m at *
    repeat' (first | refine wpB_seq ?_ | refine wpB_regionL rfl ?_ | refine wpB_block ?_ | refine wpB_skip ?_ | refine wpB_exit ?_ | refine wpB_ret ?_ | simp (maxSteps := 1000000) (dsimp := false) (disch := omega) only [go_sem, simprocAttr, *])
    refine evB_state bo68 rfl rfl (atom_read hE hn hn2 hr) ?_ (fun _ _ hp => ?_)
    · rintro d H3 ⟨r, s3, dp3, hd, hok, hk3, hr3, hlt3⟩
      have ho3 : hget H3 m = .arr [.agg [.int .u8 0, .int .u16 0, .sl true []]] := by rw [hk3.same m (lt_of_hget ho) hm, ho]
      have hlm := lt_of_hget ho3
      have hk3 := hk.trans hk3
      have c1 := hd.cells
      have c2 := hd.aggQ
      have c3 := hd.noTup
      clear hk hr ho h
      simp (maxSteps := 1000000) (dsimp := false) (disch := omega) only [go_sem, simprocAttr, *]
      repeat' (first | refine wpB_seq ?_ | refine wpB_regionL rfl ?_ | refine wpB_block ?_ | refine wpB_skip ?_ | refine wpB_exit ?_ | refine wpB_ret ?_ | simp (maxSteps := 1000000) (dsimp := false) (disch := omega) only [go_sem, simprocAttr, *])
      have hl3 : p < H3.length := by have := hr3.lt; omega
      have hr4 : RdAt (H3 ++ [Ob.arr [d]]) p s3 dp3 := hr3.app
      have ho4 : hget (H3 ++ [Ob.arr [d]]) m = .arr [.agg [.int .u8 0, .int .u16 0, .sl true []]] := by rw [hget_app_lt hlm, ho3]
      have hd4 : hget (H3 ++ [Ob.arr [d]]) H3.length = .arr [d] := hget_new
      have hk4 : Keep p H (H3 ++ [Ob.arr [d]]) := hk3.app
      have hl4 : H3.length < (H3 ++ [Ob.arr [d]]).length := by simp
      have hl5 : m < (H3 ++ [Ob.arr [d]]).length := by simp; omega
      have hx3 : H3.length ≠ p := by omega
      generalize hxx : H3.length = x at *
      generalize H3 ++ [Ob.arr [d]] = H4 at *
      clear hr3 ho3 hk3
      by_cases q1 : first s3 = 42
      · refine evB_state bo62 rfl rfl (take_yes hr4 (by decide) q1) ?_ (fun _ _ h => h.elim)
        rintro _ H5 ⟨rfl, hk5, hr5⟩
        have ho5 : hget H5 m = .arr [.agg [.int .u8 0, .int .u16 0, .sl true []]] := by rw [hk5.same m hl5 hm, ho4]
        have hd5 : hget H5 x = .arr [d] := by rw [hk5.same _ hl4 hx3, hd4]
        have hk5 := hk4.trans hk5
        have hl6 := lt_of_hget ho5
        clear ho4 hd4 hk4 hr4
        simp (maxSteps := 1000000) (dsimp := false) (disch := omega) only [go_sem, simprocAttr, *]
        refine wpB_cond (by simp (maxSteps := 1000000) (dsimp := false) (disch := omega) only [go_sem, simprocAttr, *]; exact rfl) (fun hb => ?_) (fun hb => ?_) <;> try simp (maxSteps := 1000000) (dsimp := false) (disch := omega) only [go_sem, simprocAttr, decide_eq_true_eq, decide_eq_false_iff_not, Bool.not_eq_true, Bool.not_eq_false, Int.not_lt, Int.not_le] at hb
        repeat' (first | refine wpB_seq ?_ | refine wpB_regionL rfl ?_ | refine wpB_block ?_ | refine wpB_skip ?_ | refine wpB_exit ?_ | refine wpB_ret ?_ | simp (maxSteps := 1000000) (dsimp := false) (disch := omega) only [go_sem, simprocAttr, *])
        refine evB_str bo69 rfl rfl (by simp only [stripL, hd.strip, Vm.strip, Option.bind_some, Option.map_some]) (one_ok 4 r) ?_
        have c4 := rx_cells (.mk 4 0 [r])
        have c5 := rx_aggQ (.mk 4 0 [r])
        have c6 := rx_noTup (.mk 4 0 [r])
        have c7 := rxV_self (.mk 4 0 [r])
        generalize rxD (.mk 4 0 [r]) = d2 at *
        simp (maxSteps := 1000000) (dsimp := false) (disch := omega) only [go_sem, simprocAttr, *]
        repeat' (first | refine wpB_seq ?_ | refine wpB_regionL rfl ?_ | refine wpB_block ?_ | refine wpB_skip ?_ | refine wpB_exit ?_ | refine wpB_ret ?_ | simp (maxSteps := 1000000) (dsimp := false) (disch := omega) only [go_sem, simprocAttr, *])
        exact ⟨_, _, dp3, .inl c7, okR_one (by decide) hok, hk5.high (by omega), hr5.high hm, by simp only [List.length_drop] at *; omega⟩
      refine evB_state bo62 rfl rfl (take_no hr4 q1) ?_ (fun _ _ h => h.elim)
      rintro _ H5 ⟨rfl, rfl⟩
      simp (maxSteps := 1000000) (dsimp := false) (disch := omega) only [go_sem, simprocAttr, *]
      refine wpB_cond (by simp (maxSteps := 1000000) (dsimp := false) (disch := omega) only [go_sem, simprocAttr, *]; exact rfl) (fun hb => ?_) (fun hb => ?_) <;> try simp (maxSteps := 1000000) (dsimp := false) (disch := omega) only [go_sem, simprocAttr, decide_eq_true_eq, decide_eq_false_iff_not, Bool.not_eq_true, Bool.not_eq_false, Int.not_lt, Int.not_le] at hb
      repeat' (first | refine wpB_seq ?_ | refine wpB_regionL rfl ?_ | refine wpB_block ?_ | refine wpB_skip ?_ | refine wpB_exit ?_ | refine wpB_ret ?_ | simp (maxSteps := 1000000) (dsimp := false) (disch := omega) only [go_sem, simprocAttr, *])
      by_cases q2 : first s3 = 63
      · refine evB_state bo62 rfl rfl (take_yes hr4 (by decide) q2) ?_ (fun _ _ h => h.elim)
        rintro _ H5 ⟨rfl, hk5, hr5⟩
        have ho5 : hget H5 m = .arr [.agg [.int .u8 0, .int .u16 0, .sl true []]] := by rw [hk5.same m hl5 hm, ho4]
        have hd5 : hget H5 x = .arr [d] := by rw [hk5.same _ hl4 hx3, hd4]
        have hk5 := hk4.trans hk5
        have hl6 := lt_of_hget ho5
        clear ho4 hd4 hk4 hr4
        simp (maxSteps := 1000000) (dsimp := false) (disch := omega) only [go_sem, simprocAttr, *]
        refine wpB_cond (by simp (maxSteps := 1000000) (dsimp := false) (disch := omega) only [go_sem, simprocAttr, *]; exact rfl) (fun hb => ?_) (fun hb => ?_) <;> try simp (maxSteps := 1000000) (dsimp := false) (disch := omega) only [go_sem, simprocAttr, decide_eq_true_eq, decide_eq_false_iff_not, Bool.not_eq_true, Bool.not_eq_false, Int.not_lt, Int.not_le] at hb
        repeat' (first | refine wpB_seq ?_ | refine wpB_regionL rfl ?_ | refine wpB_block ?_ | refine wpB_skip ?_ | refine wpB_exit ?_ | refine wpB_ret ?_ | simp (maxSteps := 1000000) (dsimp := false) (disch := omega) only [go_sem, simprocAttr, *])
        refine evB_str bo69 rfl rfl (by simp only [stripL, hd.strip, Vm.strip, Option.bind_some, Option.map_some]) (one_ok 5 r) ?_
        have c4 := rx_cells (.mk 5 0 [r])
        have c5 := rx_aggQ (.mk 5 0 [r])
        have c6 := rx_noTup (.mk 5 0 [r])
        have c7 := rxV_self (.mk 5 0 [r])
        generalize rxD (.mk 5 0 [r]) = d2 at *
        simp (maxSteps := 1000000) (dsimp := false) (disch := omega) only [go_sem, simprocAttr, *]
        repeat' (first | refine wpB_seq ?_ | refine wpB_regionL rfl ?_ | refine wpB_block ?_ | refine wpB_skip ?_ | refine wpB_exit ?_ | refine wpB_ret ?_ | simp (maxSteps := 1000000) (dsimp := false) (disch := omega) only [go_sem, simprocAttr, *])
        exact ⟨_, _, dp3, .inl c7, okR_one (by decide) hok, hk5.high (by omega), hr5.high hm, by simp only [List.length_drop] at *; omega⟩
      refine evB_state bo62 rfl rfl (take_no hr4 q2) ?_ (fun _ _ h => h.elim)
      rintro _ H5 ⟨rfl, rfl⟩
      simp (maxSteps := 1000000) (dsimp := false) (disch := omega) only [go_sem, simprocAttr, *]
      refine wpB_cond (by simp (maxSteps := 1000000) (dsimp := false) (disch := omega) only [go_sem, simprocAttr, *]; exact rfl) (fun hb => ?_) (fun hb => ?_) <;> try simp (maxSteps := 1000000) (dsimp := false) (disch := omega) only [go_sem, simprocAttr, decide_eq_true_eq, decide_eq_false_iff_not, Bool.not_eq_true, Bool.not_eq_false, Int.not_lt, Int.not_le] at hb
      repeat' (first | refine wpB_seq ?_ | refine wpB_regionL rfl ?_ | refine wpB_block ?_ | refine wpB_skip ?_ | refine wpB_exit ?_ | refine wpB_ret ?_ | simp (maxSteps := 1000000) (dsimp := false) (disch := omega) only [go_sem, simprocAttr, *])
      by_cases q3 : first s3 = 43
      · refine evB_state bo62 rfl rfl (take_yes hr4 (by decide) q3) ?_ (fun _ _ h => h.elim)
        rintro _ H5 ⟨rfl, hk5, hr5⟩
        have ho5 : hget H5 m = .arr [.agg [.int .u8 0, .int .u16 0, .sl true []]] := by rw [hk5.same m hl5 hm, ho4]
        have hd5 : hget H5 x = .arr [d] := by rw [hk5.same _ hl4 hx3, hd4]
        have hk5 := hk4.trans hk5
        have hl6 := lt_of_hget ho5
        clear ho4 hd4 hk4 hr4
        simp (maxSteps := 1000000) (dsimp := false) (disch := omega) only [go_sem, simprocAttr, *]
        refine wpB_cond (by simp (maxSteps := 1000000) (dsimp := false) (disch := omega) only [go_sem, simprocAttr, *]; exact rfl) (fun hb => ?_) (fun hb => ?_) <;> try simp (maxSteps := 1000000) (dsimp := false) (disch := omega) only [go_sem, simprocAttr, decide_eq_true_eq, decide_eq_false_iff_not, Bool.not_eq_true, Bool.not_eq_false, Int.not_lt, Int.not_le] at hb
        repeat' (first | refine wpB_seq ?_ | refine wpB_regionL rfl ?_ | refine wpB_block ?_ | refine wpB_skip ?_ | refine wpB_exit ?_ | refine wpB_ret ?_ | simp (maxSteps := 1000000) (dsimp := false) (disch := omega) only [go_sem, simprocAttr, *])
        refine wpB_regionXL (prs := []) (by kernel_rfl) rfl (by kernel_rfl) ?_; simp (maxSteps := 1000000) (dsimp := false) (disch := omega) only [go_sem, simprocAttr, *]
        have hst : stripL [.int .u8 4, d] = some [.int .u8 4, rxD r] := by simp only [stripL, hd.strip, Vm.strip, Option.bind_some, Option.map_some]
        refine ⟨fun _ => by rw [hst]; rfl, evB_str bo69 rfl rfl hst (one_ok 4 r) ?_⟩
        have c4 := rx_cells (.mk 4 0 [r])
        have c5 := rx_aggQ (.mk 4 0 [r])
        have c6 := rx_noTup (.mk 4 0 [r])
        have c7 := strip_rx (.mk 4 0 [r])
        have c8 : rxDs [r, .mk 4 0 [r]] = [rxD r, rxD (.mk 4 0 [r])] := rfl
        have hok2 : okR (.mk 2 0 [r, .mk 4 0 [r]]) := ⟨by decide, by decide, by decide, by decide, by simp, hok, okR_one (by decide) hok, trivial⟩
        generalize rxD (.mk 4 0 [r]) = d2 at *
        have hs2 : stripL [d, d2] = some (rxDs [r, .mk 4 0 [r]]) := by rw [c8]; simp only [stripL, hd.strip, c7, Option.bind_some, Option.map_some]
        have hq : hget ((H5 ++ [Ob.arr [d, d2]]).set m (.arr [.agg [.int .u8 2, .int .u16 0, .vec H5.length 0 2]])) H5.length = .arr [d, d2] := by rw [hget_set_ne (by omega), hget_new]
        have hfin : ItQ p H s.length (.agg [.int .u8 2, .int .u16 0, .vec H5.length 0 2]) ((H5 ++ [Ob.arr [d, d2]]).set m (.arr [.agg [.int .u8 2, .int .u16 0, .vec H5.length 0 2]])) :=
          ⟨.mk 2 0 [r, .mk 4 0 [r]], _, dp3, .inr ⟨H5.length, d, d2, by omega, rfl, hq, hs2, rfl, rfl⟩, hok2, hk5.app.high (by omega), hr5.app.high hm, by simp only [List.length_drop] at *; omega⟩
        have hl7 : m < (H5 ++ [Ob.arr [d, d2]]).length := by simp; omega
        simp (maxSteps := 1000000) (dsimp := false) (disch := omega) only [go_sem, simprocAttr, *]
        repeat' (first | refine wpB_seq ?_ | refine wpB_regionL rfl ?_ | refine wpB_block ?_ | refine wpB_skip ?_ | refine wpB_exit ?_ | refine wpB_ret ?_ | simp (maxSteps := 1000000) (dsimp := false) (disch := omega) only [go_sem, simprocAttr, *])
      refine evB_state bo62 rfl rfl (take_no hr4 q3) ?_ (fun _ _ h => h.elim)
      rintro _ H5 ⟨rfl, rfl⟩
      simp (maxSteps := 1000000) (dsimp := false) (disch := omega) only [go_sem, simprocAttr, *]
      refine wpB_cond (by simp (maxSteps := 1000000) (dsimp := false) (disch := omega) only [go_sem, simprocAttr, *]; exact rfl) (fun hb => ?_) (fun hb => ?_) <;> try simp (maxSteps := 1000000) (dsimp := false) (disch := omega) only [go_sem, simprocAttr, decide_eq_true_eq, decide_eq_false_iff_not, Bool.not_eq_true, Bool.not_eq_false, Int.not_lt, Int.not_le] at hb
      repeat' (first | refine wpB_seq ?_ | refine wpB_regionL rfl ?_ | refine wpB_block ?_ | refine wpB_skip ?_ | refine wpB_exit ?_ | refine wpB_ret ?_ | simp (maxSteps := 1000000) (dsimp := false) (disch := omega) only [go_sem, simprocAttr, *])
      exact ⟨r, _, dp3, .inl hd, hok, hk4.high (by omega), hr4.high hm, hlt3⟩
    · simp (maxSteps := 1000000) (dsimp := false) (disch := omega) only [go_sem, simprocAttr, *]
      exact hp.of hk
end Go.Proofs.W
end
/- The reader of expressions: alternatives, whole expressions. -/
section
set_option maxHeartbeats 4000000
set_option linter.unusedVariables false
set_option linter.unusedSimpArgs false
namespace Go.Proofs.W
open Go Vm Go.Proofs.Zs05

theorem appendG {P : Program} {t e : TypeId} {n w m : Nat} {z d q x : D} {H1 H2 : Heap} {xs : List D} (he : elemT P t = some e) (hn : sizeT P e = some n) (hw : bytesT P e = some w) (hz : zeroT P e = some z) (hzn : z.cells.length = n) (hw0 : w ≠ 0)
    (hadd : addedD H1 x = some ([q], H2)) (h : VecAt m d H2 xs) (hq : q.cells.length = n) (hx : headSize n xs = true) (hm : (xs.length + 1) * w ≤ 140737488355328) :
    ∃ d' H', appendD P t H1 d x = some (d', H') ∧ VecAt m d' H' (xs ++ [q]) ∧ Same m H2 H' := by
  have hqs : headSize n [q] = true := by simp [headSize, hq]
  obtain ⟨h0, ⟨rfl, rfl⟩ | ⟨h1, r, h2, h4, rfl, h3⟩⟩ := h
  · refine ⟨.vec H2.length 0 1, H2 ++ [Ob.arr [q]], ?_, ⟨by simp; omega, .inr ⟨by simp, H2.length, by omega, by simp, rfl, hget_app0⟩⟩, Same.app h0⟩
    simp only [appendD, he, hn, hw, hz, Option.bind_some, hadd, hzn]
    simp [hw0, hqs, headSize, mostBytes]
    exact ⟨hq, by simpa using hm⟩
  · have hne : xs.isEmpty = false := by simpa using h1
    refine ⟨.vec H2.length 0 (xs.length + 1), H2.set r Ob.dead ++ [Ob.arr (xs ++ [q])], ?_, ⟨by simp; omega, .inr ⟨by simp, H2.length, by omega, by simp, by simp, ?_⟩⟩, (Same.set h2).trans (Same.app (by simp; omega))⟩
    · simp only [appendD, he, hn, hw, hz, Option.bind_some, hadd, hzn]
      simp [hw0, hqs, h3, hx, hne, hm, mostBytes]
    · have := hget_app0 (H := H2.set r Ob.dead) (L := [Ob.arr (xs ++ [q])])
      simp only [List.length_set] at this
      rw [this]; rfl
theorem vecKeep {m : Nat} {d : D} {H H' : Heap} {xs : List D} (h : VecAt m d H xs) (hl : H.length ≤ H'.length) (g : ∀ k, m ≤ k → k < H.length → hget H' k = hget H k) : VecAt m d H' xs := by
  obtain ⟨h0, h | ⟨h1, r, h2, h3, h4, h5⟩⟩ := h
  · exact ⟨by omega, .inl h⟩
  · exact ⟨by omega, .inr ⟨h1, r, h2, by omega, h4, by rw [g r h2 h3, h5]⟩⟩
theorem headRxs (l : List Rx) : headSize 3 (rxDs l) = true := by
  cases l with
  | nil => rfl
  | cons r l => cases r; rfl
theorem rxDs_app (l : List Rx) (r : Rx) : rxDs l ++ [rxD r] = rxDs (l ++ [r]) := by simp [rxDs_map]
/-- one more item -/
theorem app_item {p m : Nat} {v d : D} {Hx Hy : Heap} {l : List Rx} (hp : p < m) (hk : Keep p Hx Hy) (hv : VecAt m v Hx (rxDs l)) (hl : l.length ≤ 1000000)
    {r : Rx} (hd : RxV d r ∨ ∃ q x y, Hx.length ≤ q ∧ d = .agg [.int .u8 2, .int .u16 0, .vec q 0 2] ∧ hget Hy q = .arr [x, y] ∧ stripL [x, y] = some (rxDs r.kids) ∧ r.k = 2 ∧ r.s = 0) :
    d.cells.length = 3 ∧ ∃ v' H', appendD Tryd.prog 38 (Hy ++ [Ob.arr [d]]) v (.vec Hy.length 0 1) = some (v', H') ∧ VecAt m v' H' (rxDs (l ++ [r])) ∧ Same m Hy H' := by
  have hm := hv.1
  have key : d.cells.length = 3 ∧ ∃ H2, addedD (Hy ++ [Ob.arr [d]]) (.vec Hy.length 0 1) = some ([rxD r], H2) ∧ Hy.length ≤ H2.length ∧ ∀ k, k < Hx.length → hget H2 k = hget Hy k := by
    have hel : elems (Hy ++ [Ob.arr [d]]) (.vec Hy.length 0 1) = some [d] := by simp [elems, hget_app0, hget_cons0]
    rcases hd with hd | ⟨q, x, y, hq, rfl, hg, hs, h2, h3⟩
    · refine ⟨hd.cells, Hy ++ [Ob.arr [d]], ?_, by simp, fun k hk2 => hget_app_lt (by have := hk.len; omega)⟩
      simp only [addedD, hel, Option.bind_some]
      exact pures_strip (by simp only [stripL, hd.strip, Option.bind_some, Option.map_some])
    · have hq2 := lt_of_hget hg
      have hg2 : hget (Hy ++ [Ob.arr [.agg [.int .u8 2, .int .u16 0, .vec q 0 2]]]) q = .arr [x, y] := by rw [hget_app_lt hq2, hg]
      have hpn := pur_node (k := 3) (a := 2) (b := 0) hg2 hs
      refine ⟨rfl, (Hy ++ [Ob.arr [.agg [.int .u8 2, .int .u16 0, .vec q 0 2]]]).set q (.fro [x, y]), ?_, ?_, fun k hk2 => ?_⟩
      · simp only [addedD, hel, Option.bind_some, pures, deepest, purL]
        rw [show (6 : Nat) = 3 + 3 from rfl]
        have e : ([x, y] : List D).length = 2 := rfl
        rw [e] at hpn
        rw [hpn]
        have : rxD r = .agg [.int .u8 2, .int .u16 0, .sl false (rxDs r.kids)] := by cases r; simp only [Rx.k, Rx.s, Rx.kids] at *; subst h2 h3; rfl
        rw [this]; rfl
      · simp
      · rw [hget_set_ne (by omega), hget_app_lt (by have := hk.len; omega)]
  obtain ⟨hc, H2, hadd, hlen, hsame⟩ := key
  have hv2 : VecAt m v H2 (rxDs l) := vecKeep hv (by have := hk.len; omega) (fun k hk1 hk2 => by rw [hsame k hk2, hk.same k hk2 (by omega)])
  have := rxDs_len l
  obtain ⟨v', H', h1, h2, h3⟩ := appendG el38 sz40 by40 zr40 rfl (by decide) hadd hv2 (rx_cells r) (headRxs l) (by omega)
  rw [rxDs_app] at h2
  exact ⟨hc, v', H', h1, h2, ⟨by have := h3.1; omega, fun k hk2 => by rw [h3.2 k hk2, hsame k (by omega)]⟩⟩
theorem okR_tog {k : Int} (hk : 0 ≤ k ∧ k < 256) {l : List Rx} (hl : ∀ r ∈ l, okR r) (hn : l.length ≤ 1000000) : okR (tog k l) := by
  have hL : ∀ {l : List Rx}, (∀ r ∈ l, okR r) → okL l := by
    intro l
    induction l with
    | nil => intro _; trivial
    | cons r l ih => intro h; exact ⟨h r (by simp), ih fun x hx => h x (by simp [hx])⟩
  match l with
  | [] => exact ⟨by decide, by decide, by decide, by decide, by simp, trivial⟩
  | [x] => exact hl x (by simp)
  | x :: y :: l => exact ⟨hk.1, hk.2, by decide, by decide, by omega, hL hl⟩
/-- a list of one's own, given to a function that writes nothing -/
theorem pures_vecS {m : Nat} {a v : D} {H : Heap} {xs : List D} (h : VecAt m v H xs) (hs : stripL xs = some xs) (ha : strip a = some a) : ∃ H', pures H [a, v] = some ([a, .sl false xs], H') ∧ Same m H H' := by
  obtain ⟨h0, ⟨rfl, rfl⟩ | ⟨h1, r, h2, h3, rfl, h4⟩⟩ := h
  · refine ⟨H, pures_strip (by simp [stripL, ha, strip]), Same.refl⟩
  · refine ⟨H.set r (.fro xs), ?_, Same.set h2⟩
    simp only [pures, deepest, purL, pur_strip ha, Option.bind_some]
    rw [show (6 : Nat) = 4 + 2 from rfl, pur_vec_strip h4 hs]
    rfl
/-- what an alternative leaves -/
def AltQ (p : Nat) (H : Heap) (n : Nat) (d : D) (H' : Heap) : Prop := ∃ r s' dp', d = rxD r ∧ okR r ∧ Keep p H H' ∧ RdAt H' p s' dp' ∧ s'.length < n
theorem alt_read {n : Nat} (hE : ExprOk n) {H : Heap} {p : Nat} {s : List UInt8} {dp : Int} (hn : s.length ≤ n) (hn2 : n ≤ 100000) (h : RdAt H p s dp) : EvF Tryd.prog A 61 [.ptr p 0 0] H (AltQ p H (s.length + 1)) (PanQ p H) := by
  have hp := h.lt
  refine evF_inB (n := 26) (rs := [.cell 2 40]) Tryd.func61 rfl rfl rfl rfl rfl rfl ?_
  (refine wpB_seq ?_; refine wpB_regionL rfl ?_; simp (maxSteps := 1000000) (dsimp := false) (disch := omega) only [go_sem, simprocAttr, *])
  refine wpB_heap (fun H1 => Keep p H H1 ∧ RdAt H1 p s dp ∧ hget H1 H.length = .arr [.agg [.int .u8 0, .int .u16 0, .sl true []]]) ?_ ?_
  · exact ⟨Keep.refl.app, h.app, hget_new⟩
  · rintro H1 ⟨hk, hr, ho⟩
    have hm : H.length ≠ p := by omega
    generalize hmm : H.length = m at *
    repeat' (first | refine wpB_seq ?_ | refine wpB_regionL rfl ?_ | refine wpB_block ?_ | refine wpB_skip ?_ | refine wpB_exit ?_ | refine wpB_ret ?_ | simp (maxSteps := 1000000) (dsimp := false) (disch := omega) only [go_sem, simprocAttr, *])
    refine evB_state bo66 rfl rfl (next_ok hr) ?_ (fun _ _ h => h.elim)
    rintro _ H2 ⟨rfl, rfl⟩
    simp (maxSteps := 1000000) (dsimp := false) (disch := omega) only [go_sem, simprocAttr, *]
    repeat' (first | refine wpB_seq ?_ | refine wpB_regionL rfl ?_ | refine wpB_block ?_ | refine wpB_skip ?_ | refine wpB_exit ?_ | refine wpB_ret ?_ | simp (maxSteps := 1000000) (dsimp := false) (disch := omega) only [go_sem, simprocAttr, *])
    refine wpB_loop (fun e Hx => ∃ (l : List Rx) (s1 : List UInt8) (dp : Int), e 0 = .ptr p 0 0 ∧ e 2 = .ptr m 0 0 ∧ e 4 = .int .u8 (first s1) ∧ VecAt (m + 1) (e 3) Hx (rxDs l) ∧ (∀ r ∈ l, okR r) ∧ Keep p H Hx ∧ RdAt Hx p s1 dp ∧ hget Hx m = .arr [.agg [.int .u8 0, .int .u16 0, .sl true []]] ∧ l.length + s1.length ≤ s.length) (fun e Hx => rdLen p Hx) ?_ ?_
    · exact ⟨[], s, dp, by simp (maxSteps := 1000000) (dsimp := false) (disch := omega) only [go_sem, simprocAttr, *], by simp (maxSteps := 1000000) (dsimp := false) (disch := omega) only [go_sem, simprocAttr, *], by simp (maxSteps := 1000000) (dsimp := false) (disch := omega) only [go_sem, simprocAttr, *], VecAt.nil (by have := lt_of_hget ho; omega), by simp, hk, hr, ho, by simp⟩
    · clear hk hr ho h
      rintro e Hx ⟨l, s1, dp, e0, e2, e4, hv, hok, hk, hr, ho, hlen⟩ R hR
      by_cases q : first s1 ≠ 0 ∧ first s1 ≠ 124 ∧ first s1 ≠ 41
      · obtain ⟨q0, q1, q2⟩ := q
        repeat' (first | refine wpB_seq ?_ | refine wpB_regionL rfl ?_ | refine wpB_block ?_ | refine wpB_skip ?_ | refine wpB_exit ?_ | refine wpB_ret ?_ | simp (maxSteps := 1000000) (dsimp := false) (disch := omega) only [go_sem, simprocAttr, *])
        refine wpB_cond (by simp (maxSteps := 1000000) (dsimp := false) (disch := omega) only [go_sem, simprocAttr, *]; exact rfl) (fun hb => ?_) (fun hb => ?_) <;> try simp (maxSteps := 1000000) (dsimp := false) (disch := omega) only [go_sem, simprocAttr, decide_eq_true_eq, decide_eq_false_iff_not, Bool.not_eq_true, Bool.not_eq_false, Int.not_lt, Int.not_le] at hb
        repeat' (first | refine wpB_seq ?_ | refine wpB_regionL rfl ?_ | refine wpB_block ?_ | refine wpB_skip ?_ | refine wpB_exit ?_ | refine wpB_ret ?_ | simp (maxSteps := 1000000) (dsimp := false) (disch := omega) only [go_sem, simprocAttr, *])
        refine evB_state bo67 rfl rfl (item_read hE (by omega) hn2 hr) ?_ (fun _ _ hp => ?_)
        · rintro d Hy ⟨r, s2, dp2, hd, hokr, hky, hry, hlt⟩
          have ⟨n1, n2⟩ : noTup d = true ∧ aggQ d = true := by
            rcases hd with hd | ⟨_, _, _, _, rfl, _⟩
            · exact ⟨hd.noTup, hd.aggQ⟩
            · exact ⟨rfl, rfl⟩
          obtain ⟨c1, v', H', ha, hv', hsame⟩ := app_item (m := m + 1) (by omega) hky hv (by omega) hd
          have ho2 : hget H' m = .arr [.agg [.int .u8 0, .int .u16 0, .sl true []]] := by rw [hsame.2 m (by omega), hky.same m (lt_of_hget ho) hm, ho]
          have hr2 : RdAt H' p s2 dp2 := by unfold RdAt at hry ⊢; rw [hsame.2 p (by omega), hry]
          have hk2 : Keep p H H' := ⟨by have := (hk.trans hky).len; have := hsame.1; omega, fun k hk3 hkp => by rw [hsame.2 k (by omega), (hk.trans hky).same k hk3 hkp]⟩
          simp (maxSteps := 1000000) (dsimp := false) (disch := omega) only [go_sem, simprocAttr, *]
          repeat' (first | refine wpB_seq ?_ | refine wpB_regionL rfl ?_ | refine wpB_block ?_ | refine wpB_skip ?_ | refine wpB_exit ?_ | refine wpB_ret ?_ | simp (maxSteps := 1000000) (dsimp := false) (disch := omega) only [go_sem, simprocAttr, *])
          refine evB_state bo66 rfl rfl (next_ok hr2) ?_ (fun _ _ h => h.elim)
          rintro _ H2 ⟨rfl, rfl⟩
          simp (maxSteps := 1000000) (dsimp := false) (disch := omega) only [go_sem, simprocAttr, *]
          repeat' (first | refine wpB_seq ?_ | refine wpB_regionL rfl ?_ | refine wpB_block ?_ | refine wpB_skip ?_ | refine wpB_exit ?_ | refine wpB_ret ?_ | simp (maxSteps := 1000000) (dsimp := false) (disch := omega) only [go_sem, simprocAttr, *])
          refine hR _ _ ⟨l ++ [r], s2, dp2, by simp (maxSteps := 1000000) (dsimp := false) (disch := omega) only [go_sem, simprocAttr, *], by simp (maxSteps := 1000000) (dsimp := false) (disch := omega) only [go_sem, simprocAttr, *], by simp (maxSteps := 1000000) (dsimp := false) (disch := omega) only [go_sem, simprocAttr, *], by simp (maxSteps := 1000000) (dsimp := false) (disch := omega) only [go_sem, simprocAttr, *], ?_, hk2, hr2, ho2, by simp only [List.length_append, List.length_cons, List.length_nil]; omega⟩ ?_
          · intro x hx
            rcases List.mem_append.1 hx with hx | hx
            · exact hok x hx
            · simp only [List.mem_singleton] at hx; subst hx; exact hokr
          · rw [rdLen_of hr, rdLen_of hr2]; exact hlt
        · simp (maxSteps := 1000000) (dsimp := false) (disch := omega) only [go_sem, simprocAttr, *]
          exact hp.of hk
      · have hq3 : (first s1 = 0 ∨ first s1 = 124 ∨ first s1 = 41) := by omega
        have hlx := lt_of_hget ho
        obtain ⟨H3, hpu, hsame⟩ := pures_vecS (a := .int .u8 2) hv (strip_rxs l) rfl
        have hfin : ∀ Hz, Same (m + 1) Hx Hz → Keep p H (Hz.set m (.arr [rxD (tog 2 l)])) ∧ RdAt (Hz.set m (.arr [rxD (tog 2 l)])) p s1 dp ∧ m < Hz.length ∧ hget Hz m = .arr [.agg [.int .u8 0, .int .u16 0, .sl true []]] := by
          intro Hz hz
          refine ⟨⟨by have := hk.len; have := hz.1; simp; omega, fun k hk3 hkp => ?_⟩, ?_, by have := hz.1; omega, by rw [hz.2 m (by omega), ho]⟩
          · rw [hget_set_ne (by omega), hz.2 k (by omega), hk.same k hk3 hkp]
          · unfold RdAt at hr ⊢; rw [hget_set_ne hm, hz.2 p (by omega), hr]
        have hokt : okR (tog 2 l) := okR_tog (by decide) hok (by omega)
        have hto := together_ok 2 l
        have c4 := rx_cells (tog 2 l)
        have c5 := rx_aggQ (tog 2 l)
        have c6 := rx_noTup (tog 2 l)
        have c7 := rxV_self (tog 2 l)
        generalize hdd : rxD (tog 2 l) = d at *
        have hend : ∀ Hz, Same (m + 1) Hx Hz → AltQ p H (s.length + 1) d (Hz.set m (.arr [d])) := fun Hz hz => ⟨_, s1, dp, hdd.symm, hokt, (hfin Hz hz).1, (hfin Hz hz).2.1, by omega⟩
        rcases hq3 with q | q | q
        · repeat' (first | refine wpB_seq ?_ | refine wpB_regionL rfl ?_ | refine wpB_block ?_ | refine wpB_skip ?_ | refine wpB_exit ?_ | refine wpB_ret ?_ | simp (maxSteps := 1000000) (dsimp := false) (disch := omega) only [go_sem, simprocAttr, *])
          refine wpB_cond (by simp (maxSteps := 1000000) (dsimp := false) (disch := omega) only [go_sem, simprocAttr, *]; exact rfl) (fun hb => ?_) (fun hb => ?_) <;> try simp (maxSteps := 1000000) (dsimp := false) (disch := omega) only [go_sem, simprocAttr, decide_eq_true_eq, decide_eq_false_iff_not, Bool.not_eq_true, Bool.not_eq_false, Int.not_lt, Int.not_le] at hb
          repeat' (first | refine wpB_seq ?_ | refine wpB_regionL rfl ?_ | refine wpB_block ?_ | refine wpB_skip ?_ | refine wpB_exit ?_ | refine wpB_ret ?_ | simp (maxSteps := 1000000) (dsimp := false) (disch := omega) only [go_sem, simprocAttr, *])
          refine evB_pure bo63 rfl rfl hpu hto ?_
          obtain ⟨Hz, hz, hzs⟩ : ∃ Hz, (if flat d = true then Hx else H3) = Hz ∧ Same (m + 1) Hx Hz := by split <;> exact ⟨_, rfl, by first | exact hsame | exact Same.refl⟩
          rw [hz]
          obtain ⟨-, -, z1, z2⟩ := hfin Hz hzs
          have z3 := hend Hz hzs
          simp (maxSteps := 1000000) (dsimp := false) (disch := omega) only [go_sem, simprocAttr, *]
          repeat' (first | refine wpB_seq ?_ | refine wpB_regionL rfl ?_ | refine wpB_block ?_ | refine wpB_skip ?_ | refine wpB_exit ?_ | refine wpB_ret ?_ | simp (maxSteps := 1000000) (dsimp := false) (disch := omega) only [go_sem, simprocAttr, *])
        · repeat' (first | refine wpB_seq ?_ | refine wpB_regionL rfl ?_ | refine wpB_block ?_ | refine wpB_skip ?_ | refine wpB_exit ?_ | refine wpB_ret ?_ | simp (maxSteps := 1000000) (dsimp := false) (disch := omega) only [go_sem, simprocAttr, *])
          refine wpB_cond (by simp (maxSteps := 1000000) (dsimp := false) (disch := omega) only [go_sem, simprocAttr, *]; exact rfl) (fun hb => ?_) (fun hb => ?_) <;> try simp (maxSteps := 1000000) (dsimp := false) (disch := omega) only [go_sem, simprocAttr, decide_eq_true_eq, decide_eq_false_iff_not, Bool.not_eq_true, Bool.not_eq_false, Int.not_lt, Int.not_le] at hb
          repeat' (first | refine wpB_seq ?_ | refine wpB_regionL rfl ?_ | refine wpB_block ?_ | refine wpB_skip ?_ | refine wpB_exit ?_ | refine wpB_ret ?_ | simp (maxSteps := 1000000) (dsimp := false) (disch := omega) only [go_sem, simprocAttr, *])
          refine evB_pure bo63 rfl rfl hpu hto ?_
          obtain ⟨Hz, hz, hzs⟩ : ∃ Hz, (if flat d = true then Hx else H3) = Hz ∧ Same (m + 1) Hx Hz := by split <;> exact ⟨_, rfl, by first | exact hsame | exact Same.refl⟩
          rw [hz]
          obtain ⟨-, -, z1, z2⟩ := hfin Hz hzs
          have z3 := hend Hz hzs
          simp (maxSteps := 1000000) (dsimp := false) (disch := omega) only [go_sem, simprocAttr, *]
          repeat' (first | refine wpB_seq ?_ | refine wpB_regionL rfl ?_ | refine wpB_block ?_ | refine wpB_skip ?_ | refine wpB_exit ?_ | refine wpB_ret ?_ | simp (maxSteps := 1000000) (dsimp := false) (disch := omega) only [go_sem, simprocAttr, *])
        · repeat' (first | refine wpB_seq ?_ | refine wpB_regionL rfl ?_ | refine wpB_block ?_ | refine wpB_skip ?_ | refine wpB_exit ?_ | refine wpB_ret ?_ | simp (maxSteps := 1000000) (dsimp := false) (disch := omega) only [go_sem, simprocAttr, *])
          refine wpB_cond (by simp (maxSteps := 1000000) (dsimp := false) (disch := omega) only [go_sem, simprocAttr, *]; exact rfl) (fun hb => ?_) (fun hb => ?_) <;> try simp (maxSteps := 1000000) (dsimp := false) (disch := omega) only [go_sem, simprocAttr, decide_eq_true_eq, decide_eq_false_iff_not, Bool.not_eq_true, Bool.not_eq_false, Int.not_lt, Int.not_le] at hb
          repeat' (first | refine wpB_seq ?_ | refine wpB_regionL rfl ?_ | refine wpB_block ?_ | refine wpB_skip ?_ | refine wpB_exit ?_ | refine wpB_ret ?_ | simp (maxSteps := 1000000) (dsimp := false) (disch := omega) only [go_sem, simprocAttr, *])
          refine evB_pure bo63 rfl rfl hpu hto ?_
          obtain ⟨Hz, hz, hzs⟩ : ∃ Hz, (if flat d = true then Hx else H3) = Hz ∧ Same (m + 1) Hx Hz := by split <;> exact ⟨_, rfl, by first | exact hsame | exact Same.refl⟩
          rw [hz]
          obtain ⟨-, -, z1, z2⟩ := hfin Hz hzs
          have z3 := hend Hz hzs
          simp (maxSteps := 1000000) (dsimp := false) (disch := omega) only [go_sem, simprocAttr, *]
          repeat' (first | refine wpB_seq ?_ | refine wpB_regionL rfl ?_ | refine wpB_block ?_ | refine wpB_skip ?_ | refine wpB_exit ?_ | refine wpB_ret ?_ | simp (maxSteps := 1000000) (dsimp := false) (disch := omega) only [go_sem, simprocAttr, *])
end Go.Proofs.W
end
