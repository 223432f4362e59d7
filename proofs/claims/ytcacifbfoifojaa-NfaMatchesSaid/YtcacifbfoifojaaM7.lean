/- Texts that stand behind this claim, one after the other. -/
import Derived.Test.YtcacifbfoifojaaM5
import Derived.Test.YtcacifbfoifojaaM6
import Derived.Shelf.Small.Wraps
import Derived.Shelf.Sort.Plain
import Derived.Ground.Names2Prog
import Derived.Shelf.Slices.CompactI
import Derived.Shelf.Slices.In.SortNone
import Derived.Test.YtcacifbfoifojaaProg
/- Expressions: where a word of one may end. -/
section
set_option maxHeartbeats 4000000
set_option linter.unusedVariables false
set_option linter.unusedSimpArgs false
namespace Go.Proofs.W
open Go Vm Go.Proofs.Zs06
set_option maxHeartbeats 40000000

def bsD (l : List Bool) : List D := l.map .bool
def bitZ (s c : Int) : Bool := IntKind.u16.wrap (BitVec.ofInt IntKind.u16.bits (s.fdiv (2 ^ (min c.toNat IntKind.u16.bits))) &&& BitVec.ofInt IntKind.u16.bits 1).toNat == 1
def inB (s c : Int) : Bool := decide (0 ≤ c) && decide (c < 16) && bitZ s c
def stepB (s : Int) (w : List Int) (fl : List Bool) : List Bool := false :: List.zipWith (fun b c => b && inB s c) fl w
def orB (a b : List Bool) : List Bool := List.zipWith (· || ·) a b
/-- as often as one likes, as long as there is more -/
def roundsB (f : List Bool → List Bool) (one : Bool) : Nat → List Bool → List Bool
  | 0, l => l
  | n + 1, l => if one = true ∨ orB l (f l) = l then orB l (f l) else roundsB f one n (orB l (f l))
mutual
def endsR (w : List Int) : Rx → List Bool → List Bool
  | .mk k s l, fl => if k = 0 then fl else if k = 1 then stepB s w fl else if k = 2 then endsCat w l fl else if k = 3 then endsAlt w l fl (List.replicate (w.length + 1) false)
      else if k = 4 ∨ k = 5 then roundsB (endsOne w l) (k == 5) (w.length + 1) fl else List.replicate (w.length + 1) false
def endsCat (w : List Int) : List Rx → List Bool → List Bool
  | [], fl => fl
  | r :: l, fl => endsCat w l (endsR w r fl)
def endsAlt (w : List Int) : List Rx → List Bool → List Bool → List Bool
  | [], _, acc => acc
  | r :: l, fl, acc => endsAlt w l fl (orB acc (endsR w r fl))
def endsOne (w : List Int) : List Rx → List Bool → List Bool
  | [], fl => fl
  | r :: _, fl => endsR w r fl
end
theorem orB_len {a b : List Bool} {n : Nat} (h : a.length = n) (g : b.length = n) : (orB a b).length = n := by simp [orB, h, g]
theorem rounds_len {f : List Bool → List Bool} {n : Nat} (hf : ∀ l, l.length = n → (f l).length = n) {one : Bool} : ∀ (m : Nat) (l : List Bool), l.length = n → (roundsB f one m l).length = n
  | 0, l, h => h
  | m + 1, l, h => by
    simp only [roundsB]
    have := orB_len h (hf l h)
    split
    · exact this
    · exact rounds_len hf m _ this
mutual
theorem ends_len (w : List Int) : ∀ (r : Rx) (fl : List Bool), fl.length = w.length + 1 → (endsR w r fl).length = w.length + 1
  | .mk k s l, fl, h => by
    simp only [endsR]
    split
    · exact h
    split
    · simp [stepB, h]
    split
    · exact endsCat_len w l fl h
    split
    · exact endsAlt_len w l fl _ h (by simp)
    split
    · exact rounds_len (fun x hx => endsOne_len w l x hx) _ fl h
    · simp
theorem endsCat_len (w : List Int) : ∀ (l : List Rx) (fl : List Bool), fl.length = w.length + 1 → (endsCat w l fl).length = w.length + 1
  | [], fl, h => h
  | r :: l, fl, h => endsCat_len w l _ (ends_len w r fl h)
theorem endsAlt_len (w : List Int) : ∀ (l : List Rx) (fl acc : List Bool), fl.length = w.length + 1 → acc.length = w.length + 1 → (endsAlt w l fl acc).length = w.length + 1
  | [], fl, acc, h, g => g
  | r :: l, fl, acc, h, g => endsAlt_len w l fl _ h (orB_len g (ends_len w r fl h))
theorem endsOne_len (w : List Int) : ∀ (l : List Rx) (fl : List Bool), fl.length = w.length + 1 → (endsOne w l fl).length = w.length + 1
  | [], fl, h => h
  | r :: _, fl, h => ends_len w r fl h
end
theorem vs_bools {H : Heap} {q : Nat} {l : List Bool} (h : hget H q = .arr (bsD l)) (hl : 0 < l.length) : vecSize H q 1 = true := by
  refine vecSize_of h ?_ ?_
  · cases l with
    | nil => simp at hl
    | cons b l => simp [bsD]
  · cases l <;> rfl
theorem bs_at {l : List Bool} {i : Nat} (h : i < l.length) : (bsD l)[i]? = some (.bool l[i]) := by simp [bsD, h]
theorem bs_set {l : List Bool} {i : Nat} {b : Bool} : (bsD l).set i (.bool b) = bsD (l.set i b) := by simp [bsD, List.map_set]
theorem bs_len {l : List Bool} : (bsD l).length = l.length := by simp [bsD]
theorem mk_bools {n : Int} {H : Heap} (h0 : 0 < n) (h1 : n ≤ 1000000) : makeSliceD Try.prog 42 (.int .i64 n) (.int .i64 n) H = some (.vec H.length 0 n.toNat, H ++ [Ob.arr (bsD (List.replicate n.toNat false))]) := by
  simp only [makeSliceD, el42, sz42, sz4, by4, zr4, Option.bind_some]
  have hcond : 0 ≤ n ∧ n ≤ n ∧ n.toNat * 1 ≤ mostBytes ∧ n < 2 ^ 62 ∧ (D.bool false).cells.length = 1 := ⟨by omega, Int.le_refl _, by simp only [mostBytes]; omega, by omega, rfl⟩
  rw [if_pos hcond, if_neg (by omega)]
  simp [bsD]
/-- steps as far as a place -/
def stepL (s : Int) (w : List Int) (fl : List Bool) (j : Nat) : List Bool := (stepB s w fl).take (j + 1) ++ List.replicate (w.length - j) false
theorem stepL_len {s : Int} {w : List Int} {fl : List Bool} (h : fl.length = w.length + 1) (j : Nat) (hj : j ≤ w.length) : (stepL s w fl j).length = w.length + 1 := by simp [stepL, stepB, h]; omega
theorem stepL_zero {s : Int} {w : List Int} {fl : List Bool} (h : fl.length = w.length + 1) : stepL s w fl 0 = List.replicate (w.length + 1) false := by simp [stepL, stepB, List.replicate_succ]
theorem stepL_end {s : Int} {w : List Int} {fl : List Bool} (h : fl.length = w.length + 1) : stepL s w fl w.length = stepB s w fl := by
  simp only [stepL, Nat.sub_self, List.replicate_zero, List.append_nil]
  exact List.take_of_length_le (by simp [stepB, h])
theorem stepL_next {s : Int} {w : List Int} {fl : List Bool} (h : fl.length = w.length + 1) {j : Nat} (hj : j < w.length) : stepL s w fl (j + 1) = (stepL s w fl j).set (j + 1) (fl[j] && inB s w[j]) := by
  have hS : (stepB s w fl)[j + 1]? = some (fl[j] && inB s w[j]) := by
    simp only [stepB, List.getElem?_cons_succ]
    rw [List.getElem?_zipWith, List.getElem?_eq_getElem (by omega), List.getElem?_eq_getElem hj]
  have hlen : ((stepB s w fl).take (j + 1)).length = j + 1 := by simp [stepB, h]; omega
  unfold stepL
  rw [List.take_add_one (i := j + 1), hS, show w.length - j = (w.length - (j + 1)) + 1 by omega, List.replicate_succ, List.set_append_right _ _ (by omega), hlen, Nat.sub_self]
  simp
theorem stepL_same {s : Int} {w : List Int} {fl : List Bool} (h : fl.length = w.length + 1) {j : Nat} (hj : j < w.length) : (stepL s w fl j).set (j + 1) false = stepL s w fl j := by
  have hlen : ((stepB s w fl).take (j + 1)).length = j + 1 := by simp [stepB, h]; omega
  unfold stepL
  rw [show w.length - j = (w.length - (j + 1)) + 1 by omega, List.replicate_succ, List.set_append_right _ _ (by omega), hlen, Nat.sub_self]
  simp
/-- lists joined as far as a place -/
def orL (a x : List Bool) (i : Nat) : List Bool := (orB a x).take i ++ a.drop i
theorem orL_zero {a x : List Bool} : orL a x 0 = a := by simp [orL]
theorem orL_end {a x : List Bool} {n : Nat} (h : a.length = n) (g : x.length = n) : orL a x n = orB a x := by
  simp only [orL]
  rw [List.take_of_length_le (by rw [orB_len h g]; omega), List.drop_eq_nil_of_le (by omega), List.append_nil]
theorem orL_len {a x : List Bool} {n i : Nat} (h : a.length = n) (g : x.length = n) (hi : i ≤ n) : (orL a x i).length = n := by
  simp [orL, orB_len h g, h]; omega
theorem orL_at {a x : List Bool} {n i : Nat} (h : a.length = n) (g : x.length = n) (hi : i < n) : (orL a x i)[i]? = some a[i] := by
  have hl : ((orB a x).take i).length = i := by simp [orB_len h g]; omega
  simp only [orL]
  rw [List.getElem?_append_right (by omega), hl, Nat.sub_self, List.getElem?_drop, Nat.add_zero, List.getElem?_eq_getElem (by omega)]
theorem orL_next {a x : List Bool} {n i : Nat} (h : a.length = n) (g : x.length = n) (hi : i < n) : orL a x (i + 1) = (orL a x i).set i (a[i] || x[i]) := by
  have hl : ((orB a x).take i).length = i := by simp [orB_len h g]; omega
  have hx : (orB a x)[i]? = some (a[i] || x[i]) := by
    simp only [orB]
    rw [List.getElem?_zipWith, List.getElem?_eq_getElem (by omega), List.getElem?_eq_getElem (by omega)]
  simp only [orL]
  rw [List.take_add_one, hx, List.set_append_right _ _ (by omega), hl, Nat.sub_self, List.drop_eq_getElem_cons (show i < a.length by omega), List.set_cons_zero]
  simp only [Option.toList_some, List.append_assoc, List.cons_append, List.nil_append]
/-- is there more, as far as a place? -/
def moreL (a x : List Bool) : Nat → Bool
  | 0 => false
  | i + 1 => moreL a x i || (x.getD i false && !a.getD i false)
theorem more_same {a x : List Bool} {n : Nat} (h : a.length = n) (g : x.length = n) : moreL a x n = false ↔ orB a x = a := by
  have key : ∀ i, moreL a x i = false ↔ ∀ j, j < i → (x.getD j false && !a.getD j false) = false := by
    intro i
    induction i with
    | zero => simp [moreL]
    | succ i ih =>
      simp only [moreL, Bool.or_eq_false_iff, ih]
      constructor
      · rintro ⟨h1, h2⟩ j hj
        rcases Nat.lt_succ_iff_lt_or_eq.1 hj with hj | rfl
        · exact h1 j hj
        · exact h2
      · exact fun h => ⟨fun j hj => h j (by omega), h i (by omega)⟩
  rw [key]
  constructor
  · intro hh
    apply List.ext_getElem (by rw [orB_len h g, h])
    intro j h1 h2
    have := hh j (by omega)
    simp only [List.getD, List.getElem?_eq_getElem (show j < x.length by omega), List.getElem?_eq_getElem h2, Option.getD_some] at this
    simp only [orB, List.getElem_zipWith]
    cases hx : x[j] <;> cases ha : a[j] <;> simp_all
  · intro hh j hj
    have h2 : (orB a x)[j]'(by rw [orB_len h g]; omega) = a[j] := by simp only [hh]
    simp only [orB, List.getElem_zipWith] at h2
    simp only [List.getD, List.getElem?_eq_getElem (show j < x.length by omega), List.getElem?_eq_getElem (show j < a.length by omega), Option.getD_some]
    cases hx : x[j] <;> cases ha : a[j] <;> simp_all
/-- what a call of Ends leaves -/
def EndsQ (H : Heap) (n : Nat) (l : List Bool) (d : D) (H' : Heap) : Prop := Same H.length H H' ∧ ∃ p, H.length ≤ p ∧ d = .vec p 0 n ∧ hget H' p = .arr (bsD l)
theorem step_len {s : Int} {w : List Int} {fl : List Bool} (h : fl.length = w.length + 1) : (stepB s w fl).length = w.length + 1 := by simp [stepB, h]
structure St (H0 H : Heap) (m q : Nat) (R : D) (fl : List Bool) : Prop where
  same : Same m H0 H
  rx : hget H m = .arr [R]
  fr : hget H q = .arr (bsD fl)
  lt : q < m
theorem St.set {H0 H : Heap} {m q p : Nat} {R : D} {fl : List Bool} {ob : Ob} (h : St H0 H m q R fl) (hp : m < p) : St H0 (H.set p ob) m q R fl :=
  ⟨h.same.trans (Same.set (by omega)), by rw [hget_set_ne (by omega)]; exact h.rx, by have := h.lt; rw [hget_set_ne (by omega)]; exact h.fr, h.lt⟩
theorem St.call {H0 H H' : Heap} {m q : Nat} {R : D} {fl : List Bool} (h : St H0 H m q R fl) (g : Same H.length H H') : St H0 H' m q R fl := by
  have h1 := lt_of_hget h.rx
  have h2 := h.lt
  exact ⟨h.same.trans (g.le (by omega)), by rw [g.2 m h1]; exact h.rx, by rw [g.2 q (by omega)]; exact h.fr, h.lt⟩
theorem take_set {α : Type} {L F : List α} {j : Nat} {x : α} (hL : j < L.length) (h : L.take j = F.take j) (hx : F[j]? = some x) : (L.set j x).take (j + 1) = F.take (j + 1) := by
  rw [List.take_add_one, List.take_add_one, List.take_set, h, hx]
  have : (L.set j x)[j]? = some x := by simp [hL]
  rw [this]
  rw [List.set_eq_of_length_le (by simp; omega)]
theorem ends_ok (w : List Int) (hw : w.length ≤ 1000) : ∀ (d : Nat) (r : Rx) (hr : okR r) (hd : depth r ≤ d) (hs : shapesR r = true) (fl : List Bool) (hfl : fl.length = w.length + 1) (H : Heap) (q : Nat) (hq : hget H q = .arr (bsD fl)),
    EvF Try.prog A 37 [rxD r, isD w, .vec q 0 (w.length + 1)] H (EndsQ H (w.length + 1) (endsR w r fl)) (fun _ _ => False) := by
  intro d
  induction d with
  | zero => rintro ⟨k, s, l⟩ _ h; simp [depth] at h
  | succ d ih =>
    rintro ⟨k, s, l⟩ hr hd hs fl hfl H q hq
    have hkid : ∀ x ∈ l, depth x ≤ d := fun x hx => by have := depth_kid (k := k) (s := s) hx; omega
    have hsk : ∀ x ∈ l, shapesR x = true := by
      simp only [shapesR, Bool.and_eq_true, shapesL_eq] at hs
      exact fun x hx => List.all_eq_true.1 hs.2 x hx
    obtain ⟨hk0, hk1, hs0, hs1, hlen, hok⟩ := hr
    have hqlt := lt_of_hget hq
    have hmk := fun H => mk_bools (n := (w.length : Int) + 1) (H := H) (by omega) (by omega)
    have hnat : ((w.length : Int) + 1).toNat = w.length + 1 := by omega
    simp only [hnat] at hmk
    refine evF_inB (n := 219) (rs := [.tmp 6]) Try.func37 rfl rfl rfl rfl rfl rfl ?_
    (refine wpB_seq ?_; refine wpB_regionL rfl ?_; simp (maxSteps := 1000000) (dsimp := false) (disch := omega) only [go_sem, simprocAttr, *, isD])
    (refine wpB_seq ?_; refine wpB_regionL rfl ?_; simp (maxSteps := 1000000) (dsimp := false) (disch := omega) only [go_sem, simprocAttr, *, isD])
    refine wpB_heap (fun H1 => St H H1 H.length q (rxD (.mk k s l)) fl ∧ hget H1 (H.length + 1) = .arr (bsD (List.replicate (w.length + 1) false))) ?_ ?_
    · refine ⟨⟨⟨by simp, fun i hi => ?_⟩, ?_, ?_, hqlt⟩, ?_⟩
      · rw [List.append_assoc, hget_app_lt hi]
      · rw [List.append_assoc, hget_app0]; rfl
      · rw [List.append_assoc, hget_app_lt hqlt]; exact hq
      · rw [List.append_assoc]; exact hget_app (H := H) (k := 1)
    · clear hmk hq
      generalize hm : H.length = m at *
      rintro H1 ⟨hst, hout⟩
      refine wpB_mid (fun e Hx => ∃ p, m ≤ p ∧ e 7 = .vec p 0 (w.length + 1) ∧ hget Hx p = .arr (bsD (endsR w (.mk k s l) fl)) ∧ Same m H Hx) ?_ ?_
      · intro R hR
        have hrx := hst.rx
        by_cases h0 : k = 0
        · subst h0
          have he : endsR w (.mk 0 s l) fl = fl := by simp [endsR]
          rw [he] at hR
          repeat' (first | refine wpB_seq ?_ | refine wpB_regionL rfl ?_ | refine wpB_block ?_ | refine wpB_skip ?_ | refine wpB_exit ?_ | refine wpB_ret ?_ | simp (maxSteps := 1000000) (dsimp := false) (disch := omega) only [go_sem, simprocAttr, *])
          refine wpB_cond (by simp (maxSteps := 1000000) (dsimp := false) (disch := omega) only [go_sem, simprocAttr, *]; exact rfl) (fun hb => ?_) (fun hb => ?_) <;> try simp (maxSteps := 1000000) (dsimp := false) (disch := omega) only [go_sem, simprocAttr, decide_eq_true_eq, decide_eq_false_iff_not, Bool.not_eq_true, Bool.not_eq_false, Int.not_lt, Int.not_le] at hb
          repeat' (first | refine wpB_seq ?_ | refine wpB_regionL rfl ?_ | refine wpB_block ?_ | refine wpB_skip ?_ | refine wpB_exit ?_ | refine wpB_ret ?_ | simp (maxSteps := 1000000) (dsimp := false) (disch := omega) only [go_sem, simprocAttr, *])
          refine wpB_loop (fun e Hx => ∃ (j : Nat) (L : List Bool), j ≤ w.length + 1 ∧ L.length = w.length + 1 ∧ L.take j = fl.take j ∧ St H Hx m q (rxD (.mk 0 s l)) fl ∧ hget Hx (m + 1) = .arr (bsD L) ∧ e 1 = isD w ∧ e 2 = .vec q 0 (w.length + 1) ∧ e 3 = .ptr m 0 0 ∧ e 7 = .vec (m + 1) 0 (w.length + 1) ∧ e 8 = .int .i64 j) (fun e H => w.length + 1 - natOf (e 8)) ?_ ?_
          · exact ⟨0, List.replicate (w.length + 1) false, by omega, by simp, rfl, hst, hout, by simp (maxSteps := 1000000) (dsimp := false) (disch := omega) only [go_sem, simprocAttr, *, isD], by simp (maxSteps := 1000000) (dsimp := false) (disch := omega) only [go_sem, simprocAttr, *], by simp (maxSteps := 1000000) (dsimp := false) (disch := omega) only [go_sem, simprocAttr, *], by simp (maxSteps := 1000000) (dsimp := false) (disch := omega) only [go_sem, simprocAttr, *], rfl⟩
          · clear hst hout
            rintro e Hx ⟨j, L, hj, hL, htk, hst, hout, e1, e2, e3, e7, e8⟩ R2 hR2
            have hv1 := vs_bools hout (by omega)
            have hv2 := vs_bools hst.fr (by omega)
            have hfr := hst.fr
            repeat' (first | refine wpB_seq ?_ | refine wpB_regionL rfl ?_ | refine wpB_block ?_ | refine wpB_skip ?_ | refine wpB_exit ?_ | refine wpB_ret ?_ | simp (maxSteps := 1000000) (dsimp := false) (disch := omega) only [go_sem, simprocAttr, *])
            refine wpB_cond (by simp (maxSteps := 1000000) (dsimp := false) (disch := omega) only [go_sem, simprocAttr, *]; exact rfl) (fun hb2 => ?_) (fun hb2 => ?_) <;> try simp (maxSteps := 1000000) (dsimp := false) (disch := omega) only [go_sem, simprocAttr, decide_eq_true_eq, decide_eq_false_iff_not, Bool.not_eq_true, Bool.not_eq_false, Int.not_lt, Int.not_le] at hb2
            · have hlt : j < w.length + 1 := by omega
              have hx := bs_at (l := fl) (i := j) (by omega)
              have hy := bs_at (l := L) (i := j) (by omega)
              repeat' (first | refine wpB_seq ?_ | refine wpB_regionL rfl ?_ | refine wpB_block ?_ | refine wpB_skip ?_ | refine wpB_exit ?_ | refine wpB_ret ?_ | simp (maxSteps := 1000000) (dsimp := false) (disch := omega) only [go_sem, simprocAttr, *])
              refine hR2 _ _ ⟨j + 1, L.set j fl[j], by omega, by simp [hL], take_set (by omega) htk (List.getElem?_eq_getElem (by omega)), ?_, ?_, by simp (maxSteps := 1000000) (dsimp := false) (disch := omega) only [go_sem, simprocAttr, *], by simp (maxSteps := 1000000) (dsimp := false) (disch := omega) only [go_sem, simprocAttr, *], by simp (maxSteps := 1000000) (dsimp := false) (disch := omega) only [go_sem, simprocAttr, *], by simp (maxSteps := 1000000) (dsimp := false) (disch := omega) only [go_sem, simprocAttr, *], by simp (maxSteps := 1000000) (dsimp := false) (disch := omega) only [go_sem, simprocAttr, *]⟩ ?_
              · exact hst.set (by omega)
              · rw [bs_set]; exact hget_set_eq (lt_of_hget hout)
              · simp (maxSteps := 1000000) (dsimp := false) (disch := omega) only [go_sem, simprocAttr, *, natOf_int]
            · rw [List.take_of_length_le (by omega), List.take_of_length_le (by omega)] at htk
              subst htk
              repeat' (first | refine wpB_seq ?_ | refine wpB_regionL rfl ?_ | refine wpB_block ?_ | refine wpB_skip ?_ | refine wpB_exit ?_ | refine wpB_ret ?_ | simp (maxSteps := 1000000) (dsimp := false) (disch := omega) only [go_sem, simprocAttr, *])
              exact hR _ _ ⟨m + 1, by omega, by simp (maxSteps := 1000000) (dsimp := false) (disch := omega) only [go_sem, simprocAttr, *], hout, hst.same⟩
        by_cases h1 : k = 1
        · subst h1
          have he : endsR w (.mk 1 s l) fl = stepB s w fl := by simp [endsR]
          rw [he] at hR
          repeat' (first | refine wpB_seq ?_ | refine wpB_regionL rfl ?_ | refine wpB_block ?_ | refine wpB_skip ?_ | refine wpB_exit ?_ | refine wpB_ret ?_ | simp (maxSteps := 1000000) (dsimp := false) (disch := omega) only [go_sem, simprocAttr, *])
          refine wpB_cond (by simp (maxSteps := 1000000) (dsimp := false) (disch := omega) only [go_sem, simprocAttr, *]; exact rfl) (fun hb => ?_) (fun hb => ?_) <;> try simp (maxSteps := 1000000) (dsimp := false) (disch := omega) only [go_sem, simprocAttr, decide_eq_true_eq, decide_eq_false_iff_not, Bool.not_eq_true, Bool.not_eq_false, Int.not_lt, Int.not_le] at hb
          repeat' (first | refine wpB_seq ?_ | refine wpB_regionL rfl ?_ | refine wpB_block ?_ | refine wpB_skip ?_ | refine wpB_exit ?_ | refine wpB_ret ?_ | simp (maxSteps := 1000000) (dsimp := false) (disch := omega) only [go_sem, simprocAttr, *])
          refine wpB_cond (by simp (maxSteps := 1000000) (dsimp := false) (disch := omega) only [go_sem, simprocAttr, *]; exact rfl) (fun hb => ?_) (fun hb => ?_) <;> try simp (maxSteps := 1000000) (dsimp := false) (disch := omega) only [go_sem, simprocAttr, decide_eq_true_eq, decide_eq_false_iff_not, Bool.not_eq_true, Bool.not_eq_false, Int.not_lt, Int.not_le] at hb
          repeat' (first | refine wpB_seq ?_ | refine wpB_regionL rfl ?_ | refine wpB_block ?_ | refine wpB_skip ?_ | refine wpB_exit ?_ | refine wpB_ret ?_ | simp (maxSteps := 1000000) (dsimp := false) (disch := omega) only [go_sem, simprocAttr, *])
          refine wpB_loop (fun e Hx => ∃ (j : Nat), j ≤ w.length ∧ St H Hx m q (rxD (.mk 1 s l)) fl ∧ hget Hx (m + 1) = .arr (bsD (stepL s w fl j)) ∧ e 1 = isD w ∧ e 2 = .vec q 0 (w.length + 1) ∧ e 3 = .ptr m 0 0 ∧ e 7 = .vec (m + 1) 0 (w.length + 1) ∧ e 9 = .int .i64 j) (fun e H => w.length - natOf (e 9)) ?_ ?_
          · exact ⟨0, by omega, hst, by rw [stepL_zero hfl]; exact hout, by simp (maxSteps := 1000000) (dsimp := false) (disch := omega) only [go_sem, simprocAttr, *, isD], by simp (maxSteps := 1000000) (dsimp := false) (disch := omega) only [go_sem, simprocAttr, *], by simp (maxSteps := 1000000) (dsimp := false) (disch := omega) only [go_sem, simprocAttr, *], by simp (maxSteps := 1000000) (dsimp := false) (disch := omega) only [go_sem, simprocAttr, *], rfl⟩
          · clear hst hout hrx
            rintro e Hx ⟨j, hj, hst, hout, e1, e2, e3, e7, e9⟩ R2 hR2
            have hLl := stepL_len (s := s) hfl j (by omega)
            have hv1 := vs_bools hout (by omega)
            have hv2 := vs_bools hst.fr (by omega)
            have hfr := hst.fr
            have hrx := hst.rx
            repeat' (first | refine wpB_seq ?_ | refine wpB_regionL rfl ?_ | refine wpB_block ?_ | refine wpB_skip ?_ | refine wpB_exit ?_ | refine wpB_ret ?_ | simp (maxSteps := 1000000) (dsimp := false) (disch := omega) only [go_sem, simprocAttr, *, isD])
            refine wpB_cond (by simp (maxSteps := 1000000) (dsimp := false) (disch := omega) only [go_sem, simprocAttr, *]; exact rfl) (fun hb2 => ?_) (fun hb2 => ?_) <;> try simp (maxSteps := 1000000) (dsimp := false) (disch := omega) only [go_sem, simprocAttr, decide_eq_true_eq, decide_eq_false_iff_not, Bool.not_eq_true, Bool.not_eq_false, Int.not_lt, Int.not_le] at hb2
            · have hx := bs_at (l := fl) (i := j) (by omega)
              have hnext := stepL_next (s := s) hfl hb2
              by_cases c1 : fl[j] = true
              · by_cases c2 : 0 ≤ w[j]
                · by_cases c3 : w[j] < 16
                  · cases hbz : bitZ s w[j] with
                    | true =>
                      have hz : (fl[j] && inB s w[j]) = true := by simp [inB, c1, c2, c3, hbz]
                      simp only [bitZ] at hbz
                      rw [hz] at hnext
                      have hy := bs_at (l := stepL s w fl j) (i := j + 1) (by omega)
                      repeat' (first | refine wpB_seq ?_ | refine wpB_regionL rfl ?_ | refine wpB_block ?_ | refine wpB_skip ?_ | refine wpB_exit ?_ | refine wpB_ret ?_ | simp (maxSteps := 1000000) (dsimp := false) (disch := omega) only [go_sem, simprocAttr, *, isD])
                      refine wpB_regionXL (prs := []) (by kernel_rfl) rfl (by kernel_rfl) ?_; simp (maxSteps := 1000000) (dsimp := false) (disch := omega) only [go_sem, simprocAttr, *, isD]
                      refine wpB_cond (by simp (maxSteps := 1000000) (dsimp := false) (disch := omega) only [go_sem, simprocAttr, *]; exact rfl) (fun hb3 => ?_) (fun hb3 => ?_) <;> try simp (maxSteps := 1000000) (dsimp := false) (disch := omega) only [go_sem, simprocAttr, decide_eq_true_eq, decide_eq_false_iff_not, Bool.not_eq_true, Bool.not_eq_false, Int.not_lt, Int.not_le] at hb3
                      · repeat' (first | refine wpB_seq ?_ | refine wpB_regionL rfl ?_ | refine wpB_block ?_ | refine wpB_skip ?_ | refine wpB_exit ?_ | refine wpB_ret ?_ | simp (maxSteps := 1000000) (dsimp := false) (disch := omega) only [go_sem, simprocAttr, *, isD])
                        refine hR2 _ _ ⟨j + 1, by omega, hst.set (by omega), ?_, by simp (maxSteps := 1000000) (dsimp := false) (disch := omega) only [go_sem, simprocAttr, *], by simp (maxSteps := 1000000) (dsimp := false) (disch := omega) only [go_sem, simprocAttr, *], by simp (maxSteps := 1000000) (dsimp := false) (disch := omega) only [go_sem, simprocAttr, *], by simp (maxSteps := 1000000) (dsimp := false) (disch := omega) only [go_sem, simprocAttr, *], by simp (maxSteps := 1000000) (dsimp := false) (disch := omega) only [go_sem, simprocAttr, *]⟩ ?_
                        · rw [hnext, ← bs_set]; exact hget_set_eq (lt_of_hget hout)
                        · simp (maxSteps := 1000000) (dsimp := false) (disch := omega) only [go_sem, simprocAttr, *, natOf_int]
                      · exact absurd (hbz.symm.trans hb3) (by decide)
                    | false =>
                      have hz : (fl[j] && inB s w[j]) = false := by simp [inB, hbz]
                      rw [hz] at hnext
                      have hsame : (stepL s w fl j).set (j + 1) false = stepL s w fl j := stepL_same hfl hb2
                      rw [hsame] at hnext
                      clear hz hsame
                      simp only [bitZ] at hbz
                      repeat' (first | refine wpB_seq ?_ | refine wpB_regionL rfl ?_ | refine wpB_block ?_ | refine wpB_skip ?_ | refine wpB_exit ?_ | refine wpB_ret ?_ | simp (maxSteps := 1000000) (dsimp := false) (disch := omega) only [go_sem, simprocAttr, *, isD])
                      refine wpB_regionXL (prs := []) (by kernel_rfl) rfl (by kernel_rfl) ?_; simp (maxSteps := 1000000) (dsimp := false) (disch := omega) only [go_sem, simprocAttr, *, isD]
                      refine wpB_cond (by simp (maxSteps := 1000000) (dsimp := false) (disch := omega) only [go_sem, simprocAttr, *]; exact rfl) (fun hb3 => ?_) (fun hb3 => ?_) <;> try simp (maxSteps := 1000000) (dsimp := false) (disch := omega) only [go_sem, simprocAttr, decide_eq_true_eq, decide_eq_false_iff_not, Bool.not_eq_true, Bool.not_eq_false, Int.not_lt, Int.not_le] at hb3
                      · exact absurd (hbz.symm.trans hb3) (by decide)
                      · repeat' (first | refine wpB_seq ?_ | refine wpB_regionL rfl ?_ | refine wpB_block ?_ | refine wpB_skip ?_ | refine wpB_exit ?_ | refine wpB_ret ?_ | simp (maxSteps := 1000000) (dsimp := false) (disch := omega) only [go_sem, simprocAttr, *, isD])
                        refine hR2 _ _ ⟨j + 1, by omega, hst, by rw [hnext]; exact hout, by simp (maxSteps := 1000000) (dsimp := false) (disch := omega) only [go_sem, simprocAttr, *], by simp (maxSteps := 1000000) (dsimp := false) (disch := omega) only [go_sem, simprocAttr, *], by simp (maxSteps := 1000000) (dsimp := false) (disch := omega) only [go_sem, simprocAttr, *], by simp (maxSteps := 1000000) (dsimp := false) (disch := omega) only [go_sem, simprocAttr, *], by simp (maxSteps := 1000000) (dsimp := false) (disch := omega) only [go_sem, simprocAttr, *]⟩ ?_
                        simp (maxSteps := 1000000) (dsimp := false) (disch := omega) only [go_sem, simprocAttr, *, natOf_int]
                  · have hz0 := c3
                    have hz : (fl[j] && inB s w[j]) = false := by simp [inB, c3]
                    rw [hz] at hnext
                    have hsame : (stepL s w fl j).set (j + 1) false = stepL s w fl j := stepL_same hfl hb2
                    rw [hsame] at hnext
                    clear hz hsame
                    repeat' (first | refine wpB_seq ?_ | refine wpB_regionL rfl ?_ | refine wpB_block ?_ | refine wpB_skip ?_ | refine wpB_exit ?_ | refine wpB_ret ?_ | simp (maxSteps := 1000000) (dsimp := false) (disch := omega) only [go_sem, simprocAttr, *, isD])
                    refine wpB_regionXL (prs := []) (by kernel_rfl) rfl (by kernel_rfl) ?_; simp (maxSteps := 1000000) (dsimp := false) (disch := omega) only [go_sem, simprocAttr, *, isD]
                    refine wpB_cond (by simp (maxSteps := 1000000) (dsimp := false) (disch := omega) only [go_sem, simprocAttr, *]; exact rfl) (fun hb3 => ?_) (fun hb3 => ?_) <;> try simp (maxSteps := 1000000) (dsimp := false) (disch := omega) only [go_sem, simprocAttr, decide_eq_true_eq, decide_eq_false_iff_not, Bool.not_eq_true, Bool.not_eq_false, Int.not_lt, Int.not_le] at hb3
                    repeat' (first | refine wpB_seq ?_ | refine wpB_regionL rfl ?_ | refine wpB_block ?_ | refine wpB_skip ?_ | refine wpB_exit ?_ | refine wpB_ret ?_ | simp (maxSteps := 1000000) (dsimp := false) (disch := omega) only [go_sem, simprocAttr, *, isD])
                    refine hR2 _ _ ⟨j + 1, by omega, hst, by rw [hnext]; exact hout, by simp (maxSteps := 1000000) (dsimp := false) (disch := omega) only [go_sem, simprocAttr, *], by simp (maxSteps := 1000000) (dsimp := false) (disch := omega) only [go_sem, simprocAttr, *], by simp (maxSteps := 1000000) (dsimp := false) (disch := omega) only [go_sem, simprocAttr, *], by simp (maxSteps := 1000000) (dsimp := false) (disch := omega) only [go_sem, simprocAttr, *], by simp (maxSteps := 1000000) (dsimp := false) (disch := omega) only [go_sem, simprocAttr, *]⟩ ?_
                    simp (maxSteps := 1000000) (dsimp := false) (disch := omega) only [go_sem, simprocAttr, *, natOf_int]
                · have hz0 := c2
                  have hz : (fl[j] && inB s w[j]) = false := by simp [inB, c2]
                  rw [hz] at hnext
                  have hsame : (stepL s w fl j).set (j + 1) false = stepL s w fl j := stepL_same hfl hb2
                  rw [hsame] at hnext
                  clear hz hsame
                  repeat' (first | refine wpB_seq ?_ | refine wpB_regionL rfl ?_ | refine wpB_block ?_ | refine wpB_skip ?_ | refine wpB_exit ?_ | refine wpB_ret ?_ | simp (maxSteps := 1000000) (dsimp := false) (disch := omega) only [go_sem, simprocAttr, *, isD])
                  refine wpB_regionXL (prs := []) (by kernel_rfl) rfl (by kernel_rfl) ?_; simp (maxSteps := 1000000) (dsimp := false) (disch := omega) only [go_sem, simprocAttr, *, isD]
                  refine wpB_cond (by simp (maxSteps := 1000000) (dsimp := false) (disch := omega) only [go_sem, simprocAttr, *]; exact rfl) (fun hb3 => ?_) (fun hb3 => ?_) <;> try simp (maxSteps := 1000000) (dsimp := false) (disch := omega) only [go_sem, simprocAttr, decide_eq_true_eq, decide_eq_false_iff_not, Bool.not_eq_true, Bool.not_eq_false, Int.not_lt, Int.not_le] at hb3
                  repeat' (first | refine wpB_seq ?_ | refine wpB_regionL rfl ?_ | refine wpB_block ?_ | refine wpB_skip ?_ | refine wpB_exit ?_ | refine wpB_ret ?_ | simp (maxSteps := 1000000) (dsimp := false) (disch := omega) only [go_sem, simprocAttr, *, isD])
                  refine hR2 _ _ ⟨j + 1, by omega, hst, by rw [hnext]; exact hout, by simp (maxSteps := 1000000) (dsimp := false) (disch := omega) only [go_sem, simprocAttr, *], by simp (maxSteps := 1000000) (dsimp := false) (disch := omega) only [go_sem, simprocAttr, *], by simp (maxSteps := 1000000) (dsimp := false) (disch := omega) only [go_sem, simprocAttr, *], by simp (maxSteps := 1000000) (dsimp := false) (disch := omega) only [go_sem, simprocAttr, *], by simp (maxSteps := 1000000) (dsimp := false) (disch := omega) only [go_sem, simprocAttr, *]⟩ ?_
                  simp (maxSteps := 1000000) (dsimp := false) (disch := omega) only [go_sem, simprocAttr, *, natOf_int]
              · simp only [Bool.not_eq_true] at c1
                have hz : (fl[j] && inB s w[j]) = false := by simp [inB, c1]
                rw [hz] at hnext
                have hsame : (stepL s w fl j).set (j + 1) false = stepL s w fl j := stepL_same hfl hb2
                rw [hsame] at hnext
                clear hz hsame
                repeat' (first | refine wpB_seq ?_ | refine wpB_regionL rfl ?_ | refine wpB_block ?_ | refine wpB_skip ?_ | refine wpB_exit ?_ | refine wpB_ret ?_ | simp (maxSteps := 1000000) (dsimp := false) (disch := omega) only [go_sem, simprocAttr, *, isD])
                refine wpB_regionXL (prs := []) (by kernel_rfl) rfl (by kernel_rfl) ?_; simp (maxSteps := 1000000) (dsimp := false) (disch := omega) only [go_sem, simprocAttr, *, isD]
                refine wpB_cond (by simp (maxSteps := 1000000) (dsimp := false) (disch := omega) only [go_sem, simprocAttr, *]; exact rfl) (fun hb3 => ?_) (fun hb3 => ?_) <;> try simp (maxSteps := 1000000) (dsimp := false) (disch := omega) only [go_sem, simprocAttr, decide_eq_true_eq, decide_eq_false_iff_not, Bool.not_eq_true, Bool.not_eq_false, Int.not_lt, Int.not_le] at hb3
                repeat' (first | refine wpB_seq ?_ | refine wpB_regionL rfl ?_ | refine wpB_block ?_ | refine wpB_skip ?_ | refine wpB_exit ?_ | refine wpB_ret ?_ | simp (maxSteps := 1000000) (dsimp := false) (disch := omega) only [go_sem, simprocAttr, *, isD])
                refine hR2 _ _ ⟨j + 1, by omega, hst, by rw [hnext]; exact hout, by simp (maxSteps := 1000000) (dsimp := false) (disch := omega) only [go_sem, simprocAttr, *], by simp (maxSteps := 1000000) (dsimp := false) (disch := omega) only [go_sem, simprocAttr, *], by simp (maxSteps := 1000000) (dsimp := false) (disch := omega) only [go_sem, simprocAttr, *], by simp (maxSteps := 1000000) (dsimp := false) (disch := omega) only [go_sem, simprocAttr, *], by simp (maxSteps := 1000000) (dsimp := false) (disch := omega) only [go_sem, simprocAttr, *]⟩ ?_
                simp (maxSteps := 1000000) (dsimp := false) (disch := omega) only [go_sem, simprocAttr, *, natOf_int]
            · have hjw : j = w.length := by omega
              subst hjw
              rw [stepL_end hfl] at hout
              repeat' (first | refine wpB_seq ?_ | refine wpB_regionL rfl ?_ | refine wpB_block ?_ | refine wpB_skip ?_ | refine wpB_exit ?_ | refine wpB_ret ?_ | simp (maxSteps := 1000000) (dsimp := false) (disch := omega) only [go_sem, simprocAttr, *])
              exact hR _ _ ⟨m + 1, by omega, by simp (maxSteps := 1000000) (dsimp := false) (disch := omega) only [go_sem, simprocAttr, *], hout, hst.same⟩
        by_cases h2 : k = 2
        · subst h2
          have he : endsR w (.mk 2 s l) fl = endsCat w l fl := by simp [endsR]
          rw [he] at hR
          repeat' (first | refine wpB_seq ?_ | refine wpB_regionL rfl ?_ | refine wpB_block ?_ | refine wpB_skip ?_ | refine wpB_exit ?_ | refine wpB_ret ?_ | simp (maxSteps := 1000000) (dsimp := false) (disch := omega) only [go_sem, simprocAttr, *])
          refine wpB_cond (by simp (maxSteps := 1000000) (dsimp := false) (disch := omega) only [go_sem, simprocAttr, *]; exact rfl) (fun hb => ?_) (fun hb => ?_) <;> try simp (maxSteps := 1000000) (dsimp := false) (disch := omega) only [go_sem, simprocAttr, decide_eq_true_eq, decide_eq_false_iff_not, Bool.not_eq_true, Bool.not_eq_false, Int.not_lt, Int.not_le] at hb
          repeat' (first | refine wpB_seq ?_ | refine wpB_regionL rfl ?_ | refine wpB_block ?_ | refine wpB_skip ?_ | refine wpB_exit ?_ | refine wpB_ret ?_ | simp (maxSteps := 1000000) (dsimp := false) (disch := omega) only [go_sem, simprocAttr, *])
          refine wpB_cond (by simp (maxSteps := 1000000) (dsimp := false) (disch := omega) only [go_sem, simprocAttr, *]; exact rfl) (fun hb => ?_) (fun hb => ?_) <;> try simp (maxSteps := 1000000) (dsimp := false) (disch := omega) only [go_sem, simprocAttr, decide_eq_true_eq, decide_eq_false_iff_not, Bool.not_eq_true, Bool.not_eq_false, Int.not_lt, Int.not_le] at hb
          repeat' (first | refine wpB_seq ?_ | refine wpB_regionL rfl ?_ | refine wpB_block ?_ | refine wpB_skip ?_ | refine wpB_exit ?_ | refine wpB_ret ?_ | simp (maxSteps := 1000000) (dsimp := false) (disch := omega) only [go_sem, simprocAttr, *])
          refine wpB_cond (by simp (maxSteps := 1000000) (dsimp := false) (disch := omega) only [go_sem, simprocAttr, *]; exact rfl) (fun hb => ?_) (fun hb => ?_) <;> try simp (maxSteps := 1000000) (dsimp := false) (disch := omega) only [go_sem, simprocAttr, decide_eq_true_eq, decide_eq_false_iff_not, Bool.not_eq_true, Bool.not_eq_false, Int.not_lt, Int.not_le] at hb
          repeat' (first | refine wpB_seq ?_ | refine wpB_regionL rfl ?_ | refine wpB_block ?_ | refine wpB_skip ?_ | refine wpB_exit ?_ | refine wpB_ret ?_ | simp (maxSteps := 1000000) (dsimp := false) (disch := omega) only [go_sem, simprocAttr, *])
          refine wpB_loop (fun e Hx => ∃ (j : Nat) (L : List Bool), j ≤ w.length + 1 ∧ L.length = w.length + 1 ∧ L.take j = fl.take j ∧ St H Hx m q (rxD (.mk 2 s l)) fl ∧ hget Hx (m + 1) = .arr (bsD L) ∧ e 1 = isD w ∧ e 2 = .vec q 0 (w.length + 1) ∧ e 3 = .ptr m 0 0 ∧ e 7 = .vec (m + 1) 0 (w.length + 1) ∧ e 10 = .int .i64 j) (fun e H => w.length + 1 - natOf (e 10)) ?_ ?_
          · exact ⟨0, List.replicate (w.length + 1) false, by omega, by simp, rfl, hst, hout, by simp (maxSteps := 1000000) (dsimp := false) (disch := omega) only [go_sem, simprocAttr, *, isD], by simp (maxSteps := 1000000) (dsimp := false) (disch := omega) only [go_sem, simprocAttr, *], by simp (maxSteps := 1000000) (dsimp := false) (disch := omega) only [go_sem, simprocAttr, *], by simp (maxSteps := 1000000) (dsimp := false) (disch := omega) only [go_sem, simprocAttr, *], rfl⟩
          · clear hst hout
            rintro e Hx ⟨j, L, hj, hL, htk, hst, hout, e1, e2, e3, e7, e10⟩ R2 hR2
            have hv1 := vs_bools hout (by omega)
            have hv2 := vs_bools hst.fr (by omega)
            have hfr := hst.fr
            repeat' (first | refine wpB_seq ?_ | refine wpB_regionL rfl ?_ | refine wpB_block ?_ | refine wpB_skip ?_ | refine wpB_exit ?_ | refine wpB_ret ?_ | simp (maxSteps := 1000000) (dsimp := false) (disch := omega) only [go_sem, simprocAttr, *])
            refine wpB_cond (by simp (maxSteps := 1000000) (dsimp := false) (disch := omega) only [go_sem, simprocAttr, *]; exact rfl) (fun hb2 => ?_) (fun hb2 => ?_) <;> try simp (maxSteps := 1000000) (dsimp := false) (disch := omega) only [go_sem, simprocAttr, decide_eq_true_eq, decide_eq_false_iff_not, Bool.not_eq_true, Bool.not_eq_false, Int.not_lt, Int.not_le] at hb2
            · have hlt : j < w.length + 1 := by omega
              have hx := bs_at (l := fl) (i := j) (by omega)
              have hy := bs_at (l := L) (i := j) (by omega)
              repeat' (first | refine wpB_seq ?_ | refine wpB_regionL rfl ?_ | refine wpB_block ?_ | refine wpB_skip ?_ | refine wpB_exit ?_ | refine wpB_ret ?_ | simp (maxSteps := 1000000) (dsimp := false) (disch := omega) only [go_sem, simprocAttr, *])
              refine hR2 _ _ ⟨j + 1, L.set j fl[j], by omega, by simp [hL], take_set (by omega) htk (List.getElem?_eq_getElem (by omega)), ?_, ?_, by simp (maxSteps := 1000000) (dsimp := false) (disch := omega) only [go_sem, simprocAttr, *], by simp (maxSteps := 1000000) (dsimp := false) (disch := omega) only [go_sem, simprocAttr, *], by simp (maxSteps := 1000000) (dsimp := false) (disch := omega) only [go_sem, simprocAttr, *], by simp (maxSteps := 1000000) (dsimp := false) (disch := omega) only [go_sem, simprocAttr, *], by simp (maxSteps := 1000000) (dsimp := false) (disch := omega) only [go_sem, simprocAttr, *]⟩ ?_
              · exact hst.set (by omega)
              · rw [bs_set]; exact hget_set_eq (lt_of_hget hout)
              · simp (maxSteps := 1000000) (dsimp := false) (disch := omega) only [go_sem, simprocAttr, *, natOf_int]
            · rw [List.take_of_length_le (by omega), List.take_of_length_le (by omega)] at htk
              subst htk
              clear hR2 hv1 hv2 hfr hb2
              have hrx := hst.rx
              repeat' (first | refine wpB_seq ?_ | refine wpB_regionL rfl ?_ | refine wpB_block ?_ | refine wpB_skip ?_ | refine wpB_exit ?_ | refine wpB_ret ?_ | simp (maxSteps := 1000000) (dsimp := false) (disch := omega) only [go_sem, simprocAttr, *])
              refine wpB_loop (fun e Hx => ∃ (j p : Nat) (M : List Bool), j ≤ l.length ∧ M.length = w.length + 1 ∧ St H Hx m q (rxD (.mk 2 s l)) L ∧ m ≤ p ∧ hget Hx p = .arr (bsD M) ∧ e 1 = isD w ∧ e 3 = .ptr m 0 0 ∧ e 7 = .vec p 0 (w.length + 1) ∧ e 11 = .int .i64 j ∧ endsCat w l L = endsCat w (l.drop j) M) (fun e H => l.length - natOf (e 11)) ?_ ?_
              · exact ⟨0, m + 1, L, by omega, hL, hst, by omega, hout, by simp (maxSteps := 1000000) (dsimp := false) (disch := omega) only [go_sem, simprocAttr, *], by simp (maxSteps := 1000000) (dsimp := false) (disch := omega) only [go_sem, simprocAttr, *], by simp (maxSteps := 1000000) (dsimp := false) (disch := omega) only [go_sem, simprocAttr, *], rfl, by simp⟩
              · clear hst hout hrx hj
                rintro e Hx ⟨j, p, M, hj, hM, hst, hp, hout, e1, e3, e7, e11, ha⟩ R2 hR2
                have hrx := hst.rx
                repeat' (first | refine wpB_seq ?_ | refine wpB_regionL rfl ?_ | refine wpB_block ?_ | refine wpB_skip ?_ | refine wpB_exit ?_ | refine wpB_ret ?_ | simp (maxSteps := 1000000) (dsimp := false) (disch := omega) only [go_sem, simprocAttr, *])
                refine wpB_cond (by simp (maxSteps := 1000000) (dsimp := false) (disch := omega) only [go_sem, simprocAttr, *]; exact rfl) (fun hb2 => ?_) (fun hb2 => ?_) <;> try simp (maxSteps := 1000000) (dsimp := false) (disch := omega) only [go_sem, simprocAttr, decide_eq_true_eq, decide_eq_false_iff_not, Bool.not_eq_true, Bool.not_eq_false, Int.not_lt, Int.not_le] at hb2
                · rw [List.drop_eq_getElem_cons hb2] at ha
                  simp only [endsCat] at ha
                  have hsj : shapesR l[j] = true := hsk _ (List.getElem_mem hb2)
                  repeat' (first | refine wpB_seq ?_ | refine wpB_regionL rfl ?_ | refine wpB_block ?_ | refine wpB_skip ?_ | refine wpB_exit ?_ | refine wpB_ret ?_ | simp (maxSteps := 1000000) (dsimp := false) (disch := omega) only [go_sem, simprocAttr, *])
                  refine evB_state bo37 rfl rfl (ih l[j] (okL_get hok _ (List.getElem_mem hb2)) (hkid _ (List.getElem_mem hb2)) hsj M hM Hx p hout) ?_ (fun _ _ h => h.elim)
                  rintro _ Hy ⟨hsame, p', hp', rfl, hout'⟩
                  have hlx := lt_of_hget hst.rx
                  simp (maxSteps := 1000000) (dsimp := false) (disch := omega) only [go_sem, simprocAttr, *]
                  repeat' (first | refine wpB_seq ?_ | refine wpB_regionL rfl ?_ | refine wpB_block ?_ | refine wpB_skip ?_ | refine wpB_exit ?_ | refine wpB_ret ?_ | simp (maxSteps := 1000000) (dsimp := false) (disch := omega) only [go_sem, simprocAttr, *])
                  refine hR2 _ _ ⟨j + 1, p', _, by omega, ends_len w l[j] M hM, hst.call hsame, by omega, hout', by simp (maxSteps := 1000000) (dsimp := false) (disch := omega) only [go_sem, simprocAttr, *], by simp (maxSteps := 1000000) (dsimp := false) (disch := omega) only [go_sem, simprocAttr, *], by simp (maxSteps := 1000000) (dsimp := false) (disch := omega) only [go_sem, simprocAttr, *], by simp (maxSteps := 1000000) (dsimp := false) (disch := omega) only [go_sem, simprocAttr, *], ha⟩ ?_
                  simp (maxSteps := 1000000) (dsimp := false) (disch := omega) only [go_sem, simprocAttr, *, natOf_int]
                · rw [List.drop_eq_nil_of_le (by omega)] at ha
                  simp only [endsCat] at ha
                  rw [ha] at hR
                  repeat' (first | refine wpB_seq ?_ | refine wpB_regionL rfl ?_ | refine wpB_block ?_ | refine wpB_skip ?_ | refine wpB_exit ?_ | refine wpB_ret ?_ | simp (maxSteps := 1000000) (dsimp := false) (disch := omega) only [go_sem, simprocAttr, *])
                  exact hR _ _ ⟨p, hp, by simp (maxSteps := 1000000) (dsimp := false) (disch := omega) only [go_sem, simprocAttr, *], hout, hst.same⟩
        by_cases h3 : k = 3
        · subst h3
          have he : endsR w (.mk 3 s l) fl = endsAlt w l fl (List.replicate (w.length + 1) false) := by simp [endsR]
          rw [he] at hR
          repeat' (first | refine wpB_seq ?_ | refine wpB_regionL rfl ?_ | refine wpB_block ?_ | refine wpB_skip ?_ | refine wpB_exit ?_ | refine wpB_ret ?_ | simp (maxSteps := 1000000) (dsimp := false) (disch := omega) only [go_sem, simprocAttr, *])
          refine wpB_cond (by simp (maxSteps := 1000000) (dsimp := false) (disch := omega) only [go_sem, simprocAttr, *]; exact rfl) (fun hb => ?_) (fun hb => ?_) <;> try simp (maxSteps := 1000000) (dsimp := false) (disch := omega) only [go_sem, simprocAttr, decide_eq_true_eq, decide_eq_false_iff_not, Bool.not_eq_true, Bool.not_eq_false, Int.not_lt, Int.not_le] at hb
          repeat' (first | refine wpB_seq ?_ | refine wpB_regionL rfl ?_ | refine wpB_block ?_ | refine wpB_skip ?_ | refine wpB_exit ?_ | refine wpB_ret ?_ | simp (maxSteps := 1000000) (dsimp := false) (disch := omega) only [go_sem, simprocAttr, *])
          refine wpB_cond (by simp (maxSteps := 1000000) (dsimp := false) (disch := omega) only [go_sem, simprocAttr, *]; exact rfl) (fun hb => ?_) (fun hb => ?_) <;> try simp (maxSteps := 1000000) (dsimp := false) (disch := omega) only [go_sem, simprocAttr, decide_eq_true_eq, decide_eq_false_iff_not, Bool.not_eq_true, Bool.not_eq_false, Int.not_lt, Int.not_le] at hb
          repeat' (first | refine wpB_seq ?_ | refine wpB_regionL rfl ?_ | refine wpB_block ?_ | refine wpB_skip ?_ | refine wpB_exit ?_ | refine wpB_ret ?_ | simp (maxSteps := 1000000) (dsimp := false) (disch := omega) only [go_sem, simprocAttr, *])
          refine wpB_cond (by simp (maxSteps := 1000000) (dsimp := false) (disch := omega) only [go_sem, simprocAttr, *]; exact rfl) (fun hb => ?_) (fun hb => ?_) <;> try simp (maxSteps := 1000000) (dsimp := false) (disch := omega) only [go_sem, simprocAttr, decide_eq_true_eq, decide_eq_false_iff_not, Bool.not_eq_true, Bool.not_eq_false, Int.not_lt, Int.not_le] at hb
          repeat' (first | refine wpB_seq ?_ | refine wpB_regionL rfl ?_ | refine wpB_block ?_ | refine wpB_skip ?_ | refine wpB_exit ?_ | refine wpB_ret ?_ | simp (maxSteps := 1000000) (dsimp := false) (disch := omega) only [go_sem, simprocAttr, *])
          refine wpB_cond (by simp (maxSteps := 1000000) (dsimp := false) (disch := omega) only [go_sem, simprocAttr, *]; exact rfl) (fun hb => ?_) (fun hb => ?_) <;> try simp (maxSteps := 1000000) (dsimp := false) (disch := omega) only [go_sem, simprocAttr, decide_eq_true_eq, decide_eq_false_iff_not, Bool.not_eq_true, Bool.not_eq_false, Int.not_lt, Int.not_le] at hb
          repeat' (first | refine wpB_seq ?_ | refine wpB_regionL rfl ?_ | refine wpB_block ?_ | refine wpB_skip ?_ | refine wpB_exit ?_ | refine wpB_ret ?_ | simp (maxSteps := 1000000) (dsimp := false) (disch := omega) only [go_sem, simprocAttr, *])
          refine wpB_loop (fun e Hx => ∃ (j : Nat) (M : List Bool), j ≤ l.length ∧ M.length = w.length + 1 ∧ St H Hx m q (rxD (.mk 3 s l)) fl ∧ hget Hx (m + 1) = .arr (bsD M) ∧ e 1 = isD w ∧ e 2 = .vec q 0 (w.length + 1) ∧ e 3 = .ptr m 0 0 ∧ e 7 = .vec (m + 1) 0 (w.length + 1) ∧ e 12 = .int .i64 j ∧ endsAlt w l fl (List.replicate (w.length + 1) false) = endsAlt w (l.drop j) fl M) (fun e H => l.length - natOf (e 12)) ?_ ?_
          · exact ⟨0, List.replicate (w.length + 1) false, by omega, by simp, hst, hout, by simp (maxSteps := 1000000) (dsimp := false) (disch := omega) only [go_sem, simprocAttr, *, isD], by simp (maxSteps := 1000000) (dsimp := false) (disch := omega) only [go_sem, simprocAttr, *], by simp (maxSteps := 1000000) (dsimp := false) (disch := omega) only [go_sem, simprocAttr, *], by simp (maxSteps := 1000000) (dsimp := false) (disch := omega) only [go_sem, simprocAttr, *], rfl, by simp⟩
          · clear hst hout hrx
            rintro e Hx ⟨j, M, hj, hM, hst, hout, e1, e2, e3, e7, e12, ha⟩ R2 hR2
            have hrx := hst.rx
            repeat' (first | refine wpB_seq ?_ | refine wpB_regionL rfl ?_ | refine wpB_block ?_ | refine wpB_skip ?_ | refine wpB_exit ?_ | refine wpB_ret ?_ | simp (maxSteps := 1000000) (dsimp := false) (disch := omega) only [go_sem, simprocAttr, *])
            refine wpB_cond (by simp (maxSteps := 1000000) (dsimp := false) (disch := omega) only [go_sem, simprocAttr, *]; exact rfl) (fun hb2 => ?_) (fun hb2 => ?_) <;> try simp (maxSteps := 1000000) (dsimp := false) (disch := omega) only [go_sem, simprocAttr, decide_eq_true_eq, decide_eq_false_iff_not, Bool.not_eq_true, Bool.not_eq_false, Int.not_lt, Int.not_le] at hb2
            · rw [List.drop_eq_getElem_cons hb2] at ha
              simp only [endsAlt] at ha
              have hsj : shapesR l[j] = true := hsk _ (List.getElem_mem hb2)
              repeat' (first | refine wpB_seq ?_ | refine wpB_regionL rfl ?_ | refine wpB_block ?_ | refine wpB_skip ?_ | refine wpB_exit ?_ | refine wpB_ret ?_ | simp (maxSteps := 1000000) (dsimp := false) (disch := omega) only [go_sem, simprocAttr, *])
              refine evB_state bo37 rfl rfl (ih l[j] (okL_get hok _ (List.getElem_mem hb2)) (hkid _ (List.getElem_mem hb2)) hsj fl hfl Hx q hst.fr) ?_ (fun _ _ h => h.elim)
              rintro _ Hy ⟨hsame, p', hp', rfl, hX⟩
              have hXl := ends_len w l[j] fl hfl
              generalize endsR w l[j] fl = X at *
              have hlx := lt_of_hget hout
              have hst2 := hst.call hsame
              have hout2 : hget Hy (m + 1) = .arr (bsD M) := by rw [hsame.2 _ hlx]; exact hout
              clear hst hout hrx
              simp (maxSteps := 1000000) (dsimp := false) (disch := omega) only [go_sem, simprocAttr, *]
              repeat' (first | refine wpB_seq ?_ | refine wpB_regionL rfl ?_ | refine wpB_block ?_ | refine wpB_skip ?_ | refine wpB_exit ?_ | refine wpB_ret ?_ | simp (maxSteps := 1000000) (dsimp := false) (disch := omega) only [go_sem, simprocAttr, *])
              refine wpB_loop (fun e Hx => ∃ (i : Nat), i ≤ w.length + 1 ∧ St H Hx m q (rxD (.mk 3 s l)) fl ∧ hget Hx (m + 1) = .arr (bsD (orL M X i)) ∧ hget Hx p' = .arr (bsD X) ∧ e 1 = isD w ∧ e 2 = .vec q 0 (w.length + 1) ∧ e 3 = .ptr m 0 0 ∧ e 7 = .vec (m + 1) 0 (w.length + 1) ∧ e 12 = .int .i64 j ∧ e 13 = .vec p' 0 (w.length + 1) ∧ e 14 = .int .i64 i) (fun e H => w.length + 1 - natOf (e 14)) ?_ ?_
              · exact ⟨0, by omega, hst2, by rw [orL_zero]; exact hout2, hX, by simp (maxSteps := 1000000) (dsimp := false) (disch := omega) only [go_sem, simprocAttr, *], by simp (maxSteps := 1000000) (dsimp := false) (disch := omega) only [go_sem, simprocAttr, *], by simp (maxSteps := 1000000) (dsimp := false) (disch := omega) only [go_sem, simprocAttr, *], by simp (maxSteps := 1000000) (dsimp := false) (disch := omega) only [go_sem, simprocAttr, *], by simp (maxSteps := 1000000) (dsimp := false) (disch := omega) only [go_sem, simprocAttr, *], by simp (maxSteps := 1000000) (dsimp := false) (disch := omega) only [go_sem, simprocAttr, *], rfl⟩
              · clear hst2 hout2 hX
                rintro e Hz ⟨i, hi, hst, hout, hX, e1, e2, e3, e7, e12, e13, e14⟩ R3 hR3
                have hOl := orL_len hM hXl hi
                have hv1 := vs_bools hout (by omega)
                have hv2 := vs_bools hX (by omega)
                repeat' (first | refine wpB_seq ?_ | refine wpB_regionL rfl ?_ | refine wpB_block ?_ | refine wpB_skip ?_ | refine wpB_exit ?_ | refine wpB_ret ?_ | simp (maxSteps := 1000000) (dsimp := false) (disch := omega) only [go_sem, simprocAttr, *])
                refine wpB_cond (by simp (maxSteps := 1000000) (dsimp := false) (disch := omega) only [go_sem, simprocAttr, *]; exact rfl) (fun hb3 => ?_) (fun hb3 => ?_) <;> try simp (maxSteps := 1000000) (dsimp := false) (disch := omega) only [go_sem, simprocAttr, decide_eq_true_eq, decide_eq_false_iff_not, Bool.not_eq_true, Bool.not_eq_false, Int.not_lt, Int.not_le] at hb3
                · have hy := bs_at (l := X) (i := i) (by omega)
                  have hz : (bsD (orL M X i))[i]? = some (.bool M[i]) := by simp [bsD, orL_at hM hXl (show i < w.length + 1 by omega)]
                  have hnext := orL_next hM hXl (show i < w.length + 1 by omega)
                  have hne : m + 1 ≠ p' := by omega
                  cases hMi : M[i] with
                  | true =>
                    rw [hMi] at hz hnext
                    rw [Bool.true_or] at hnext
                    repeat' (first | refine wpB_seq ?_ | refine wpB_regionL rfl ?_ | refine wpB_block ?_ | refine wpB_skip ?_ | refine wpB_exit ?_ | refine wpB_ret ?_ | simp (maxSteps := 1000000) (dsimp := false) (disch := omega) only [go_sem, simprocAttr, *])
                    refine hR3 _ _ ⟨i + 1, by omega, hst.set (by omega), by rw [hnext, ← bs_set]; exact hget_set_eq (lt_of_hget hout), by rw [hget_set_ne hne]; exact hX, by simp (maxSteps := 1000000) (dsimp := false) (disch := omega) only [go_sem, simprocAttr, *], by simp (maxSteps := 1000000) (dsimp := false) (disch := omega) only [go_sem, simprocAttr, *], by simp (maxSteps := 1000000) (dsimp := false) (disch := omega) only [go_sem, simprocAttr, *], by simp (maxSteps := 1000000) (dsimp := false) (disch := omega) only [go_sem, simprocAttr, *], by simp (maxSteps := 1000000) (dsimp := false) (disch := omega) only [go_sem, simprocAttr, *], by simp (maxSteps := 1000000) (dsimp := false) (disch := omega) only [go_sem, simprocAttr, *], by simp (maxSteps := 1000000) (dsimp := false) (disch := omega) only [go_sem, simprocAttr, *]⟩ ?_
                    simp (maxSteps := 1000000) (dsimp := false) (disch := omega) only [go_sem, simprocAttr, *, natOf_int]
                  | false =>
                    rw [hMi] at hz hnext
                    rw [Bool.false_or] at hnext
                    repeat' (first | refine wpB_seq ?_ | refine wpB_regionL rfl ?_ | refine wpB_block ?_ | refine wpB_skip ?_ | refine wpB_exit ?_ | refine wpB_ret ?_ | simp (maxSteps := 1000000) (dsimp := false) (disch := omega) only [go_sem, simprocAttr, *])
                    refine hR3 _ _ ⟨i + 1, by omega, hst.set (by omega), by rw [hnext, ← bs_set]; exact hget_set_eq (lt_of_hget hout), by rw [hget_set_ne hne]; exact hX, by simp (maxSteps := 1000000) (dsimp := false) (disch := omega) only [go_sem, simprocAttr, *], by simp (maxSteps := 1000000) (dsimp := false) (disch := omega) only [go_sem, simprocAttr, *], by simp (maxSteps := 1000000) (dsimp := false) (disch := omega) only [go_sem, simprocAttr, *], by simp (maxSteps := 1000000) (dsimp := false) (disch := omega) only [go_sem, simprocAttr, *], by simp (maxSteps := 1000000) (dsimp := false) (disch := omega) only [go_sem, simprocAttr, *], by simp (maxSteps := 1000000) (dsimp := false) (disch := omega) only [go_sem, simprocAttr, *], by simp (maxSteps := 1000000) (dsimp := false) (disch := omega) only [go_sem, simprocAttr, *]⟩ ?_
                    simp (maxSteps := 1000000) (dsimp := false) (disch := omega) only [go_sem, simprocAttr, *, natOf_int]
                · have hii : i = w.length + 1 := by omega
                  subst hii
                  rw [orL_end hM hXl] at hout
                  repeat' (first | refine wpB_seq ?_ | refine wpB_regionL rfl ?_ | refine wpB_block ?_ | refine wpB_skip ?_ | refine wpB_exit ?_ | refine wpB_ret ?_ | simp (maxSteps := 1000000) (dsimp := false) (disch := omega) only [go_sem, simprocAttr, *])
                  refine hR2 _ _ ⟨j + 1, _, by omega, orB_len hM hXl, hst, hout, by simp (maxSteps := 1000000) (dsimp := false) (disch := omega) only [go_sem, simprocAttr, *], by simp (maxSteps := 1000000) (dsimp := false) (disch := omega) only [go_sem, simprocAttr, *], by simp (maxSteps := 1000000) (dsimp := false) (disch := omega) only [go_sem, simprocAttr, *], by simp (maxSteps := 1000000) (dsimp := false) (disch := omega) only [go_sem, simprocAttr, *], by simp (maxSteps := 1000000) (dsimp := false) (disch := omega) only [go_sem, simprocAttr, *], ha⟩ ?_
                  simp (maxSteps := 1000000) (dsimp := false) (disch := omega) only [go_sem, simprocAttr, *, natOf_int]
            · rw [List.drop_eq_nil_of_le (by omega)] at ha
              simp only [endsAlt] at ha
              rw [ha] at hR
              repeat' (first | refine wpB_seq ?_ | refine wpB_regionL rfl ?_ | refine wpB_block ?_ | refine wpB_skip ?_ | refine wpB_exit ?_ | refine wpB_ret ?_ | simp (maxSteps := 1000000) (dsimp := false) (disch := omega) only [go_sem, simprocAttr, *])
              exact hR _ _ ⟨m + 1, by omega, by simp (maxSteps := 1000000) (dsimp := false) (disch := omega) only [go_sem, simprocAttr, *], hout, hst.same⟩
        by_cases hK : k = 4
        · subst hK
          obtain ⟨kid, rfl⟩ : ∃ kid, l = [kid] := by
            simp only [shapesR, Bool.and_eq_true] at hs
            have := hs.1
            simp [shape1] at this
            exact List.length_eq_one_iff.1 this.1
          have he : endsR w (.mk 4 s [kid]) fl = roundsB (endsR w kid) false (w.length + 1) fl := by simp [endsR, endsOne]
          rw [he] at hR
          generalize hG : roundsB (endsR w kid) false (w.length + 1) fl = G at hR
          have hsj : shapesR kid = true := hsk _ (by simp)
          have hkd := hkid kid (by simp)
          have hok1 := okL_get hok kid (by simp)
          have hdR := fun x (hx : x.length = w.length + 1) => ends_len w kid x hx
          repeat' (first | refine wpB_seq ?_ | refine wpB_regionL rfl ?_ | refine wpB_block ?_ | refine wpB_skip ?_ | refine wpB_exit ?_ | refine wpB_ret ?_ | simp (maxSteps := 1000000) (dsimp := false) (disch := omega) only [go_sem, simprocAttr, *])
          refine wpB_cond (by simp (maxSteps := 1000000) (dsimp := false) (disch := omega) only [go_sem, simprocAttr, *]; exact rfl) (fun hb => ?_) (fun hb => ?_) <;> try simp (maxSteps := 1000000) (dsimp := false) (disch := omega) only [go_sem, simprocAttr, decide_eq_true_eq, decide_eq_false_iff_not, Bool.not_eq_true, Bool.not_eq_false, Int.not_lt, Int.not_le] at hb
          repeat' (first | refine wpB_seq ?_ | refine wpB_regionL rfl ?_ | refine wpB_block ?_ | refine wpB_skip ?_ | refine wpB_exit ?_ | refine wpB_ret ?_ | simp (maxSteps := 1000000) (dsimp := false) (disch := omega) only [go_sem, simprocAttr, *])
          refine wpB_cond (by simp (maxSteps := 1000000) (dsimp := false) (disch := omega) only [go_sem, simprocAttr, *]; exact rfl) (fun hb => ?_) (fun hb => ?_) <;> try simp (maxSteps := 1000000) (dsimp := false) (disch := omega) only [go_sem, simprocAttr, decide_eq_true_eq, decide_eq_false_iff_not, Bool.not_eq_true, Bool.not_eq_false, Int.not_lt, Int.not_le] at hb
          repeat' (first | refine wpB_seq ?_ | refine wpB_regionL rfl ?_ | refine wpB_block ?_ | refine wpB_skip ?_ | refine wpB_exit ?_ | refine wpB_ret ?_ | simp (maxSteps := 1000000) (dsimp := false) (disch := omega) only [go_sem, simprocAttr, *])
          refine wpB_cond (by simp (maxSteps := 1000000) (dsimp := false) (disch := omega) only [go_sem, simprocAttr, *]; exact rfl) (fun hb => ?_) (fun hb => ?_) <;> try simp (maxSteps := 1000000) (dsimp := false) (disch := omega) only [go_sem, simprocAttr, decide_eq_true_eq, decide_eq_false_iff_not, Bool.not_eq_true, Bool.not_eq_false, Int.not_lt, Int.not_le] at hb
          repeat' (first | refine wpB_seq ?_ | refine wpB_regionL rfl ?_ | refine wpB_block ?_ | refine wpB_skip ?_ | refine wpB_exit ?_ | refine wpB_ret ?_ | simp (maxSteps := 1000000) (dsimp := false) (disch := omega) only [go_sem, simprocAttr, *])
          refine wpB_cond (by simp (maxSteps := 1000000) (dsimp := false) (disch := omega) only [go_sem, simprocAttr, *]; exact rfl) (fun hb => ?_) (fun hb => ?_) <;> try simp (maxSteps := 1000000) (dsimp := false) (disch := omega) only [go_sem, simprocAttr, decide_eq_true_eq, decide_eq_false_iff_not, Bool.not_eq_true, Bool.not_eq_false, Int.not_lt, Int.not_le] at hb
          repeat' (first | refine wpB_seq ?_ | refine wpB_regionL rfl ?_ | refine wpB_block ?_ | refine wpB_skip ?_ | refine wpB_exit ?_ | refine wpB_ret ?_ | simp (maxSteps := 1000000) (dsimp := false) (disch := omega) only [go_sem, simprocAttr, *])
          refine wpB_cond (by simp (maxSteps := 1000000) (dsimp := false) (disch := omega) only [go_sem, simprocAttr, *]; exact rfl) (fun hb => ?_) (fun hb => ?_) <;> try simp (maxSteps := 1000000) (dsimp := false) (disch := omega) only [go_sem, simprocAttr, decide_eq_true_eq, decide_eq_false_iff_not, Bool.not_eq_true, Bool.not_eq_false, Int.not_lt, Int.not_le] at hb
          repeat' (first | refine wpB_seq ?_ | refine wpB_regionL rfl ?_ | refine wpB_block ?_ | refine wpB_skip ?_ | refine wpB_exit ?_ | refine wpB_ret ?_ | simp (maxSteps := 1000000) (dsimp := false) (disch := omega) only [go_sem, simprocAttr, *])
          refine wpB_cond (by simp (maxSteps := 1000000) (dsimp := false) (disch := omega) only [go_sem, simprocAttr, *]; exact rfl) (fun hb => ?_) (fun hb => ?_) <;> try simp (maxSteps := 1000000) (dsimp := false) (disch := omega) only [go_sem, simprocAttr, decide_eq_true_eq, decide_eq_false_iff_not, Bool.not_eq_true, Bool.not_eq_false, Int.not_lt, Int.not_le] at hb
          repeat' (first | refine wpB_seq ?_ | refine wpB_regionL rfl ?_ | refine wpB_block ?_ | refine wpB_skip ?_ | refine wpB_exit ?_ | refine wpB_ret ?_ | simp (maxSteps := 1000000) (dsimp := false) (disch := omega) only [go_sem, simprocAttr, *])
          refine wpB_loop (fun e Hx => ∃ (j : Nat) (L : List Bool), j ≤ w.length + 1 ∧ L.length = w.length + 1 ∧ L.take j = fl.take j ∧ St H Hx m q (rxD (.mk 4 s [kid])) fl ∧ hget Hx (m + 1) = .arr (bsD L) ∧ e 1 = isD w ∧ e 2 = .vec q 0 (w.length + 1) ∧ e 3 = .ptr m 0 0 ∧ e 7 = .vec (m + 1) 0 (w.length + 1) ∧ e 15 = .int .i64 j) (fun e H => w.length + 1 - natOf (e 15)) ?_ ?_
          · exact ⟨0, List.replicate (w.length + 1) false, by omega, by simp, rfl, hst, hout, by simp (maxSteps := 1000000) (dsimp := false) (disch := omega) only [go_sem, simprocAttr, *, isD], by simp (maxSteps := 1000000) (dsimp := false) (disch := omega) only [go_sem, simprocAttr, *], by simp (maxSteps := 1000000) (dsimp := false) (disch := omega) only [go_sem, simprocAttr, *], by simp (maxSteps := 1000000) (dsimp := false) (disch := omega) only [go_sem, simprocAttr, *], rfl⟩
          · clear hst hout
            rintro e Hx ⟨j, L, hj, hL, htk, hst, hout, e1, e2, e3, e7, e15⟩ R2 hR2
            have hv1 := vs_bools hout (by omega)
            have hv2 := vs_bools hst.fr (by omega)
            have hfr := hst.fr
            repeat' (first | refine wpB_seq ?_ | refine wpB_regionL rfl ?_ | refine wpB_block ?_ | refine wpB_skip ?_ | refine wpB_exit ?_ | refine wpB_ret ?_ | simp (maxSteps := 1000000) (dsimp := false) (disch := omega) only [go_sem, simprocAttr, *])
            refine wpB_cond (by simp (maxSteps := 1000000) (dsimp := false) (disch := omega) only [go_sem, simprocAttr, *]; exact rfl) (fun hb2 => ?_) (fun hb2 => ?_) <;> try simp (maxSteps := 1000000) (dsimp := false) (disch := omega) only [go_sem, simprocAttr, decide_eq_true_eq, decide_eq_false_iff_not, Bool.not_eq_true, Bool.not_eq_false, Int.not_lt, Int.not_le] at hb2
            · have hlt : j < w.length + 1 := by omega
              have hx := bs_at (l := fl) (i := j) (by omega)
              have hy := bs_at (l := L) (i := j) (by omega)
              repeat' (first | refine wpB_seq ?_ | refine wpB_regionL rfl ?_ | refine wpB_block ?_ | refine wpB_skip ?_ | refine wpB_exit ?_ | refine wpB_ret ?_ | simp (maxSteps := 1000000) (dsimp := false) (disch := omega) only [go_sem, simprocAttr, *])
              refine hR2 _ _ ⟨j + 1, L.set j fl[j], by omega, by simp [hL], take_set (by omega) htk (List.getElem?_eq_getElem (by omega)), ?_, ?_, by simp (maxSteps := 1000000) (dsimp := false) (disch := omega) only [go_sem, simprocAttr, *], by simp (maxSteps := 1000000) (dsimp := false) (disch := omega) only [go_sem, simprocAttr, *], by simp (maxSteps := 1000000) (dsimp := false) (disch := omega) only [go_sem, simprocAttr, *], by simp (maxSteps := 1000000) (dsimp := false) (disch := omega) only [go_sem, simprocAttr, *], by simp (maxSteps := 1000000) (dsimp := false) (disch := omega) only [go_sem, simprocAttr, *]⟩ ?_
              · exact hst.set (by omega)
              · rw [bs_set]; exact hget_set_eq (lt_of_hget hout)
              · simp (maxSteps := 1000000) (dsimp := false) (disch := omega) only [go_sem, simprocAttr, *, natOf_int]
            · rw [List.take_of_length_le (by omega), List.take_of_length_le (by omega)] at htk
              subst htk
              clear hR2 hv1 hv2 hfr hb2
              have hrx := hst.rx
              repeat' (first | refine wpB_seq ?_ | refine wpB_regionL rfl ?_ | refine wpB_block ?_ | refine wpB_skip ?_ | refine wpB_exit ?_ | refine wpB_ret ?_ | simp (maxSteps := 1000000) (dsimp := false) (disch := omega) only [go_sem, simprocAttr, *])
              refine wpB_loop (fun e Hx => ∃ (t : Nat) (M : List Bool), t ≤ w.length + 1 ∧ M.length = w.length + 1 ∧ St H Hx m q (rxD (.mk 4 s [kid])) L ∧ hget Hx (m + 1) = .arr (bsD M) ∧ e 1 = isD w ∧ e 3 = .ptr m 0 0 ∧ e 7 = .vec (m + 1) 0 (w.length + 1) ∧ e 16 = .int .i64 t ∧ G = roundsB (endsR w kid) false (w.length + 1 - t) M) (fun e H => w.length + 1 - natOf (e 16)) ?_ ?_
              · exact ⟨0, L, by omega, hL, hst, hout, by simp (maxSteps := 1000000) (dsimp := false) (disch := omega) only [go_sem, simprocAttr, *], by simp (maxSteps := 1000000) (dsimp := false) (disch := omega) only [go_sem, simprocAttr, *], by simp (maxSteps := 1000000) (dsimp := false) (disch := omega) only [go_sem, simprocAttr, *], rfl, hG.symm⟩
              · clear hst hout hrx hj
                rintro e Hx ⟨t, M, ht, hM, hst, hout, e1, e3, e7, e16, ha⟩ R2 hR2
                have hrx := hst.rx
                repeat' (first | refine wpB_seq ?_ | refine wpB_regionL rfl ?_ | refine wpB_block ?_ | refine wpB_skip ?_ | refine wpB_exit ?_ | refine wpB_ret ?_ | simp (maxSteps := 1000000) (dsimp := false) (disch := omega) only [go_sem, simprocAttr, *])
                refine wpB_cond (by simp (maxSteps := 1000000) (dsimp := false) (disch := omega) only [go_sem, simprocAttr, *]; exact rfl) (fun hb2 => ?_) (fun hb2 => ?_) <;> try simp (maxSteps := 1000000) (dsimp := false) (disch := omega) only [go_sem, simprocAttr, decide_eq_true_eq, decide_eq_false_iff_not, Bool.not_eq_true, Bool.not_eq_false, Int.not_lt, Int.not_le] at hb2
                · rw [show w.length + 1 - t = (w.length - t) + 1 by omega] at ha
                  simp only [roundsB] at ha
                  repeat' (first | refine wpB_seq ?_ | refine wpB_regionL rfl ?_ | refine wpB_block ?_ | refine wpB_skip ?_ | refine wpB_exit ?_ | refine wpB_ret ?_ | simp (maxSteps := 1000000) (dsimp := false) (disch := omega) only [go_sem, simprocAttr, *])
                  refine evB_state bo37 rfl rfl (ih kid hok1 hkd hsj M hM Hx (m + 1) hout) ?_ (fun _ _ h => h.elim)
                  rintro _ Hy ⟨hsame, p', hp', rfl, hX⟩
                  have hXl := ends_len w kid M hM
                  generalize endsR w kid M = X at ha hX hXl
                  have hlx := lt_of_hget hout
                  have hst2 := hst.call hsame
                  have hout2 : hget Hy (m + 1) = .arr (bsD M) := by rw [hsame.2 _ hlx]; exact hout
                  clear hst hout hrx
                  simp (maxSteps := 1000000) (dsimp := false) (disch := omega) only [go_sem, simprocAttr, *]
                  repeat' (first | refine wpB_seq ?_ | refine wpB_regionL rfl ?_ | refine wpB_block ?_ | refine wpB_skip ?_ | refine wpB_exit ?_ | refine wpB_ret ?_ | simp (maxSteps := 1000000) (dsimp := false) (disch := omega) only [go_sem, simprocAttr, *])
                  refine wpB_loop (fun e Hx => ∃ (i : Nat), i ≤ w.length + 1 ∧ St H Hx m q (rxD (.mk 4 s [kid])) L ∧ hget Hx (m + 1) = .arr (bsD (orL M X i)) ∧ hget Hx p' = .arr (bsD X) ∧ e 1 = isD w ∧ e 3 = .ptr m 0 0 ∧ e 7 = .vec (m + 1) 0 (w.length + 1) ∧ e 16 = .int .i64 t ∧ e 17 = .vec p' 0 (w.length + 1) ∧ e 18 = .bool (moreL M X i) ∧ e 19 = .int .i64 i) (fun e H => w.length + 1 - natOf (e 19)) ?_ ?_
                  · exact ⟨0, by omega, hst2, by rw [orL_zero]; exact hout2, hX, by simp (maxSteps := 1000000) (dsimp := false) (disch := omega) only [go_sem, simprocAttr, *], by simp (maxSteps := 1000000) (dsimp := false) (disch := omega) only [go_sem, simprocAttr, *], by simp (maxSteps := 1000000) (dsimp := false) (disch := omega) only [go_sem, simprocAttr, *], by simp (maxSteps := 1000000) (dsimp := false) (disch := omega) only [go_sem, simprocAttr, *], by simp (maxSteps := 1000000) (dsimp := false) (disch := omega) only [go_sem, simprocAttr, *], by simp (maxSteps := 1000000) (dsimp := false) (disch := omega) only [go_sem, simprocAttr, *]; try rfl, rfl⟩
                  · clear hst2 hout2 hX
                    rintro e Hz ⟨i, hi, hst, hout, hX, e1, e3, e7, e16, e17, e18, e19⟩ R3 hR3
                    have hOl := orL_len hM hXl hi
                    have hv1 := vs_bools hout (by omega)
                    have hv2 := vs_bools hX (by omega)
                    repeat' (first | refine wpB_seq ?_ | refine wpB_regionL rfl ?_ | refine wpB_block ?_ | refine wpB_skip ?_ | refine wpB_exit ?_ | refine wpB_ret ?_ | simp (maxSteps := 1000000) (dsimp := false) (disch := omega) only [go_sem, simprocAttr, *])
                    refine wpB_cond (by simp (maxSteps := 1000000) (dsimp := false) (disch := omega) only [go_sem, simprocAttr, *]; exact rfl) (fun hb3 => ?_) (fun hb3 => ?_) <;> try simp (maxSteps := 1000000) (dsimp := false) (disch := omega) only [go_sem, simprocAttr, decide_eq_true_eq, decide_eq_false_iff_not, Bool.not_eq_true, Bool.not_eq_false, Int.not_lt, Int.not_le] at hb3
                    · have hy := bs_at (l := X) (i := i) (by omega)
                      have hz : (bsD (orL M X i))[i]? = some (.bool M[i]) := by simp [bsD, orL_at hM hXl (show i < w.length + 1 by omega)]
                      have hnext := orL_next hM hXl (show i < w.length + 1 by omega)
                      have hmore : moreL M X (i + 1) = (moreL M X i || (X[i] && !M[i])) := by simp [moreL, List.getD, show i < X.length by omega, show i < M.length by omega]
                      have hne : m + 1 ≠ p' := by omega
                      generalize moreL M X i = c at *
                      cases c <;> cases hXi : X[i] <;> cases hMi : M[i] <;>
                      (rw [hXi] at hy hnext hmore
                       rw [hMi] at hz hnext hmore
                       simp only [Bool.true_or, Bool.false_or, Bool.or_true, Bool.or_false, Bool.true_and, Bool.false_and, Bool.and_true, Bool.and_false, Bool.not_true, Bool.not_false] at hnext hmore
                       repeat' (first | refine wpB_seq ?_ | refine wpB_regionL rfl ?_ | refine wpB_block ?_ | refine wpB_skip ?_ | refine wpB_exit ?_ | refine wpB_ret ?_ | simp (maxSteps := 1000000) (dsimp := false) (disch := omega) only [go_sem, simprocAttr, *])
                       refine hR3 _ _ ⟨i + 1, by omega, hst.set (by omega), by rw [hnext, ← bs_set]; exact hget_set_eq (lt_of_hget hout), by rw [hget_set_ne hne]; exact hX, by simp (maxSteps := 1000000) (dsimp := false) (disch := omega) only [go_sem, simprocAttr, *], by simp (maxSteps := 1000000) (dsimp := false) (disch := omega) only [go_sem, simprocAttr, *], by simp (maxSteps := 1000000) (dsimp := false) (disch := omega) only [go_sem, simprocAttr, *], by simp (maxSteps := 1000000) (dsimp := false) (disch := omega) only [go_sem, simprocAttr, *], by simp (maxSteps := 1000000) (dsimp := false) (disch := omega) only [go_sem, simprocAttr, *], by simp (maxSteps := 1000000) (dsimp := false) (disch := omega) only [go_sem, simprocAttr, *], by simp (maxSteps := 1000000) (dsimp := false) (disch := omega) only [go_sem, simprocAttr, *]⟩ ?_
                       simp (maxSteps := 1000000) (dsimp := false) (disch := omega) only [go_sem, simprocAttr, *, natOf_int])
                    · have hii : i = w.length + 1 := by omega
                      subst hii
                      rw [orL_end hM hXl] at hout
                      have hrx := hst.rx
                      cases hmr : moreL M X (w.length + 1) with
                      | true =>
                        have hne : orB M X ≠ M := fun h => by rw [(more_same hM hXl).2 h] at hmr; cases hmr
                        rw [hmr] at e18
                        rw [if_neg (fun h => h.elim (fun h => by cases h) hne)] at ha
                        repeat' (first | refine wpB_seq ?_ | refine wpB_regionL rfl ?_ | refine wpB_block ?_ | refine wpB_skip ?_ | refine wpB_exit ?_ | refine wpB_ret ?_ | simp (maxSteps := 1000000) (dsimp := false) (disch := omega) only [go_sem, simprocAttr, *])
                        refine wpB_cond (by simp (maxSteps := 1000000) (dsimp := false) (disch := omega) only [go_sem, simprocAttr, *]; exact rfl) (fun hb4 => ?_) (fun hb4 => ?_) <;> try simp (maxSteps := 1000000) (dsimp := false) (disch := omega) only [go_sem, simprocAttr, decide_eq_true_eq, decide_eq_false_iff_not, Bool.not_eq_true, Bool.not_eq_false, Int.not_lt, Int.not_le] at hb4
                        repeat' (first | refine wpB_seq ?_ | refine wpB_regionL rfl ?_ | refine wpB_block ?_ | refine wpB_skip ?_ | refine wpB_exit ?_ | refine wpB_ret ?_ | simp (maxSteps := 1000000) (dsimp := false) (disch := omega) only [go_sem, simprocAttr, *])
                        refine hR2 _ _ ⟨t + 1, orB M X, by omega, orB_len hM hXl, hst, hout, by simp (maxSteps := 1000000) (dsimp := false) (disch := omega) only [go_sem, simprocAttr, *], by simp (maxSteps := 1000000) (dsimp := false) (disch := omega) only [go_sem, simprocAttr, *], by simp (maxSteps := 1000000) (dsimp := false) (disch := omega) only [go_sem, simprocAttr, *], by simp (maxSteps := 1000000) (dsimp := false) (disch := omega) only [go_sem, simprocAttr, *], by rw [show w.length + 1 - (t + 1) = w.length - t by omega]; exact ha⟩ ?_
                        simp (maxSteps := 1000000) (dsimp := false) (disch := omega) only [go_sem, simprocAttr, *, natOf_int]
                      | false =>
                        have heq : orB M X = M := (more_same hM hXl).1 hmr
                        rw [hmr] at e18
                        rw [if_pos (.inr heq)] at ha
                        rw [ha] at hR
                        repeat' (first | refine wpB_seq ?_ | refine wpB_regionL rfl ?_ | refine wpB_block ?_ | refine wpB_skip ?_ | refine wpB_exit ?_ | refine wpB_ret ?_ | simp (maxSteps := 1000000) (dsimp := false) (disch := omega) only [go_sem, simprocAttr, *])
                        refine wpB_cond (by simp (maxSteps := 1000000) (dsimp := false) (disch := omega) only [go_sem, simprocAttr, *]; exact rfl) (fun hb4 => ?_) (fun hb4 => ?_) <;> try simp (maxSteps := 1000000) (dsimp := false) (disch := omega) only [go_sem, simprocAttr, decide_eq_true_eq, decide_eq_false_iff_not, Bool.not_eq_true, Bool.not_eq_false, Int.not_lt, Int.not_le] at hb4
                        repeat' (first | refine wpB_seq ?_ | refine wpB_regionL rfl ?_ | refine wpB_block ?_ | refine wpB_skip ?_ | refine wpB_exit ?_ | refine wpB_ret ?_ | simp (maxSteps := 1000000) (dsimp := false) (disch := omega) only [go_sem, simprocAttr, *])
                        exact hR _ _ ⟨m + 1, by omega, by simp (maxSteps := 1000000) (dsimp := false) (disch := omega) only [go_sem, simprocAttr, *], hout, hst.same⟩
                · rw [show w.length + 1 - t = 0 by omega] at ha
                  simp only [roundsB] at ha
                  rw [ha] at hR
                  repeat' (first | refine wpB_seq ?_ | refine wpB_regionL rfl ?_ | refine wpB_block ?_ | refine wpB_skip ?_ | refine wpB_exit ?_ | refine wpB_ret ?_ | simp (maxSteps := 1000000) (dsimp := false) (disch := omega) only [go_sem, simprocAttr, *])
                  exact hR _ _ ⟨m + 1, by omega, by simp (maxSteps := 1000000) (dsimp := false) (disch := omega) only [go_sem, simprocAttr, *], hout, hst.same⟩
        by_cases hL : k = 5
        · subst hL
          obtain ⟨kid, rfl⟩ : ∃ kid, l = [kid] := by
            simp only [shapesR, Bool.and_eq_true] at hs
            have := hs.1
            simp [shape1] at this
            exact List.length_eq_one_iff.1 this.1
          have he : endsR w (.mk 5 s [kid]) fl = roundsB (endsR w kid) true (w.length + 1) fl := by simp [endsR, endsOne]
          rw [he] at hR
          generalize hG : roundsB (endsR w kid) true (w.length + 1) fl = G at hR
          have hsj : shapesR kid = true := hsk _ (by simp)
          have hkd := hkid kid (by simp)
          have hok1 := okL_get hok kid (by simp)
          have hdR := fun x (hx : x.length = w.length + 1) => ends_len w kid x hx
          repeat' (first | refine wpB_seq ?_ | refine wpB_regionL rfl ?_ | refine wpB_block ?_ | refine wpB_skip ?_ | refine wpB_exit ?_ | refine wpB_ret ?_ | simp (maxSteps := 1000000) (dsimp := false) (disch := omega) only [go_sem, simprocAttr, *])
          refine wpB_cond (by simp (maxSteps := 1000000) (dsimp := false) (disch := omega) only [go_sem, simprocAttr, *]; exact rfl) (fun hb => ?_) (fun hb => ?_) <;> try simp (maxSteps := 1000000) (dsimp := false) (disch := omega) only [go_sem, simprocAttr, decide_eq_true_eq, decide_eq_false_iff_not, Bool.not_eq_true, Bool.not_eq_false, Int.not_lt, Int.not_le] at hb
          repeat' (first | refine wpB_seq ?_ | refine wpB_regionL rfl ?_ | refine wpB_block ?_ | refine wpB_skip ?_ | refine wpB_exit ?_ | refine wpB_ret ?_ | simp (maxSteps := 1000000) (dsimp := false) (disch := omega) only [go_sem, simprocAttr, *])
          refine wpB_cond (by simp (maxSteps := 1000000) (dsimp := false) (disch := omega) only [go_sem, simprocAttr, *]; exact rfl) (fun hb => ?_) (fun hb => ?_) <;> try simp (maxSteps := 1000000) (dsimp := false) (disch := omega) only [go_sem, simprocAttr, decide_eq_true_eq, decide_eq_false_iff_not, Bool.not_eq_true, Bool.not_eq_false, Int.not_lt, Int.not_le] at hb
          repeat' (first | refine wpB_seq ?_ | refine wpB_regionL rfl ?_ | refine wpB_block ?_ | refine wpB_skip ?_ | refine wpB_exit ?_ | refine wpB_ret ?_ | simp (maxSteps := 1000000) (dsimp := false) (disch := omega) only [go_sem, simprocAttr, *])
          refine wpB_cond (by simp (maxSteps := 1000000) (dsimp := false) (disch := omega) only [go_sem, simprocAttr, *]; exact rfl) (fun hb => ?_) (fun hb => ?_) <;> try simp (maxSteps := 1000000) (dsimp := false) (disch := omega) only [go_sem, simprocAttr, decide_eq_true_eq, decide_eq_false_iff_not, Bool.not_eq_true, Bool.not_eq_false, Int.not_lt, Int.not_le] at hb
          repeat' (first | refine wpB_seq ?_ | refine wpB_regionL rfl ?_ | refine wpB_block ?_ | refine wpB_skip ?_ | refine wpB_exit ?_ | refine wpB_ret ?_ | simp (maxSteps := 1000000) (dsimp := false) (disch := omega) only [go_sem, simprocAttr, *])
          refine wpB_cond (by simp (maxSteps := 1000000) (dsimp := false) (disch := omega) only [go_sem, simprocAttr, *]; exact rfl) (fun hb => ?_) (fun hb => ?_) <;> try simp (maxSteps := 1000000) (dsimp := false) (disch := omega) only [go_sem, simprocAttr, decide_eq_true_eq, decide_eq_false_iff_not, Bool.not_eq_true, Bool.not_eq_false, Int.not_lt, Int.not_le] at hb
          repeat' (first | refine wpB_seq ?_ | refine wpB_regionL rfl ?_ | refine wpB_block ?_ | refine wpB_skip ?_ | refine wpB_exit ?_ | refine wpB_ret ?_ | simp (maxSteps := 1000000) (dsimp := false) (disch := omega) only [go_sem, simprocAttr, *])
          refine wpB_cond (by simp (maxSteps := 1000000) (dsimp := false) (disch := omega) only [go_sem, simprocAttr, *]; exact rfl) (fun hb => ?_) (fun hb => ?_) <;> try simp (maxSteps := 1000000) (dsimp := false) (disch := omega) only [go_sem, simprocAttr, decide_eq_true_eq, decide_eq_false_iff_not, Bool.not_eq_true, Bool.not_eq_false, Int.not_lt, Int.not_le] at hb
          repeat' (first | refine wpB_seq ?_ | refine wpB_regionL rfl ?_ | refine wpB_block ?_ | refine wpB_skip ?_ | refine wpB_exit ?_ | refine wpB_ret ?_ | simp (maxSteps := 1000000) (dsimp := false) (disch := omega) only [go_sem, simprocAttr, *])
          refine wpB_cond (by simp (maxSteps := 1000000) (dsimp := false) (disch := omega) only [go_sem, simprocAttr, *]; exact rfl) (fun hb => ?_) (fun hb => ?_) <;> try simp (maxSteps := 1000000) (dsimp := false) (disch := omega) only [go_sem, simprocAttr, decide_eq_true_eq, decide_eq_false_iff_not, Bool.not_eq_true, Bool.not_eq_false, Int.not_lt, Int.not_le] at hb
          repeat' (first | refine wpB_seq ?_ | refine wpB_regionL rfl ?_ | refine wpB_block ?_ | refine wpB_skip ?_ | refine wpB_exit ?_ | refine wpB_ret ?_ | simp (maxSteps := 1000000) (dsimp := false) (disch := omega) only [go_sem, simprocAttr, *])
          refine wpB_loop (fun e Hx => ∃ (j : Nat) (L : List Bool), j ≤ w.length + 1 ∧ L.length = w.length + 1 ∧ L.take j = fl.take j ∧ St H Hx m q (rxD (.mk 5 s [kid])) fl ∧ hget Hx (m + 1) = .arr (bsD L) ∧ e 1 = isD w ∧ e 2 = .vec q 0 (w.length + 1) ∧ e 3 = .ptr m 0 0 ∧ e 7 = .vec (m + 1) 0 (w.length + 1) ∧ e 15 = .int .i64 j) (fun e H => w.length + 1 - natOf (e 15)) ?_ ?_
          · exact ⟨0, List.replicate (w.length + 1) false, by omega, by simp, rfl, hst, hout, by simp (maxSteps := 1000000) (dsimp := false) (disch := omega) only [go_sem, simprocAttr, *, isD], by simp (maxSteps := 1000000) (dsimp := false) (disch := omega) only [go_sem, simprocAttr, *], by simp (maxSteps := 1000000) (dsimp := false) (disch := omega) only [go_sem, simprocAttr, *], by simp (maxSteps := 1000000) (dsimp := false) (disch := omega) only [go_sem, simprocAttr, *], rfl⟩
          · clear hst hout
            rintro e Hx ⟨j, L, hj, hL, htk, hst, hout, e1, e2, e3, e7, e15⟩ R2 hR2
            have hv1 := vs_bools hout (by omega)
            have hv2 := vs_bools hst.fr (by omega)
            have hfr := hst.fr
            repeat' (first | refine wpB_seq ?_ | refine wpB_regionL rfl ?_ | refine wpB_block ?_ | refine wpB_skip ?_ | refine wpB_exit ?_ | refine wpB_ret ?_ | simp (maxSteps := 1000000) (dsimp := false) (disch := omega) only [go_sem, simprocAttr, *])
            refine wpB_cond (by simp (maxSteps := 1000000) (dsimp := false) (disch := omega) only [go_sem, simprocAttr, *]; exact rfl) (fun hb2 => ?_) (fun hb2 => ?_) <;> try simp (maxSteps := 1000000) (dsimp := false) (disch := omega) only [go_sem, simprocAttr, decide_eq_true_eq, decide_eq_false_iff_not, Bool.not_eq_true, Bool.not_eq_false, Int.not_lt, Int.not_le] at hb2
            · have hlt : j < w.length + 1 := by omega
              have hx := bs_at (l := fl) (i := j) (by omega)
              have hy := bs_at (l := L) (i := j) (by omega)
              repeat' (first | refine wpB_seq ?_ | refine wpB_regionL rfl ?_ | refine wpB_block ?_ | refine wpB_skip ?_ | refine wpB_exit ?_ | refine wpB_ret ?_ | simp (maxSteps := 1000000) (dsimp := false) (disch := omega) only [go_sem, simprocAttr, *])
              refine hR2 _ _ ⟨j + 1, L.set j fl[j], by omega, by simp [hL], take_set (by omega) htk (List.getElem?_eq_getElem (by omega)), ?_, ?_, by simp (maxSteps := 1000000) (dsimp := false) (disch := omega) only [go_sem, simprocAttr, *], by simp (maxSteps := 1000000) (dsimp := false) (disch := omega) only [go_sem, simprocAttr, *], by simp (maxSteps := 1000000) (dsimp := false) (disch := omega) only [go_sem, simprocAttr, *], by simp (maxSteps := 1000000) (dsimp := false) (disch := omega) only [go_sem, simprocAttr, *], by simp (maxSteps := 1000000) (dsimp := false) (disch := omega) only [go_sem, simprocAttr, *]⟩ ?_
              · exact hst.set (by omega)
              · rw [bs_set]; exact hget_set_eq (lt_of_hget hout)
              · simp (maxSteps := 1000000) (dsimp := false) (disch := omega) only [go_sem, simprocAttr, *, natOf_int]
            · rw [List.take_of_length_le (by omega), List.take_of_length_le (by omega)] at htk
              subst htk
              clear hR2 hv1 hv2 hfr hb2
              have hrx := hst.rx
              repeat' (first | refine wpB_seq ?_ | refine wpB_regionL rfl ?_ | refine wpB_block ?_ | refine wpB_skip ?_ | refine wpB_exit ?_ | refine wpB_ret ?_ | simp (maxSteps := 1000000) (dsimp := false) (disch := omega) only [go_sem, simprocAttr, *])
              refine wpB_loop (fun e Hx => ∃ (t : Nat) (M : List Bool), t ≤ w.length + 1 ∧ M.length = w.length + 1 ∧ St H Hx m q (rxD (.mk 5 s [kid])) L ∧ hget Hx (m + 1) = .arr (bsD M) ∧ e 1 = isD w ∧ e 3 = .ptr m 0 0 ∧ e 7 = .vec (m + 1) 0 (w.length + 1) ∧ e 16 = .int .i64 t ∧ G = roundsB (endsR w kid) true (w.length + 1 - t) M) (fun e H => w.length + 1 - natOf (e 16)) ?_ ?_
              · exact ⟨0, L, by omega, hL, hst, hout, by simp (maxSteps := 1000000) (dsimp := false) (disch := omega) only [go_sem, simprocAttr, *], by simp (maxSteps := 1000000) (dsimp := false) (disch := omega) only [go_sem, simprocAttr, *], by simp (maxSteps := 1000000) (dsimp := false) (disch := omega) only [go_sem, simprocAttr, *], rfl, hG.symm⟩
              · clear hst hout hrx hj
                rintro e Hx ⟨t, M, ht, hM, hst, hout, e1, e3, e7, e16, ha⟩ R2 hR2
                have hrx := hst.rx
                repeat' (first | refine wpB_seq ?_ | refine wpB_regionL rfl ?_ | refine wpB_block ?_ | refine wpB_skip ?_ | refine wpB_exit ?_ | refine wpB_ret ?_ | simp (maxSteps := 1000000) (dsimp := false) (disch := omega) only [go_sem, simprocAttr, *])
                refine wpB_cond (by simp (maxSteps := 1000000) (dsimp := false) (disch := omega) only [go_sem, simprocAttr, *]; exact rfl) (fun hb2 => ?_) (fun hb2 => ?_) <;> try simp (maxSteps := 1000000) (dsimp := false) (disch := omega) only [go_sem, simprocAttr, decide_eq_true_eq, decide_eq_false_iff_not, Bool.not_eq_true, Bool.not_eq_false, Int.not_lt, Int.not_le] at hb2
                · rw [show w.length + 1 - t = (w.length - t) + 1 by omega] at ha
                  simp only [roundsB] at ha
                  repeat' (first | refine wpB_seq ?_ | refine wpB_regionL rfl ?_ | refine wpB_block ?_ | refine wpB_skip ?_ | refine wpB_exit ?_ | refine wpB_ret ?_ | simp (maxSteps := 1000000) (dsimp := false) (disch := omega) only [go_sem, simprocAttr, *])
                  refine evB_state bo37 rfl rfl (ih kid hok1 hkd hsj M hM Hx (m + 1) hout) ?_ (fun _ _ h => h.elim)
                  rintro _ Hy ⟨hsame, p', hp', rfl, hX⟩
                  have hXl := ends_len w kid M hM
                  generalize endsR w kid M = X at ha hX hXl
                  have hlx := lt_of_hget hout
                  have hst2 := hst.call hsame
                  have hout2 : hget Hy (m + 1) = .arr (bsD M) := by rw [hsame.2 _ hlx]; exact hout
                  clear hst hout hrx
                  simp (maxSteps := 1000000) (dsimp := false) (disch := omega) only [go_sem, simprocAttr, *]
                  repeat' (first | refine wpB_seq ?_ | refine wpB_regionL rfl ?_ | refine wpB_block ?_ | refine wpB_skip ?_ | refine wpB_exit ?_ | refine wpB_ret ?_ | simp (maxSteps := 1000000) (dsimp := false) (disch := omega) only [go_sem, simprocAttr, *])
                  refine wpB_loop (fun e Hx => ∃ (i : Nat), i ≤ w.length + 1 ∧ St H Hx m q (rxD (.mk 5 s [kid])) L ∧ hget Hx (m + 1) = .arr (bsD (orL M X i)) ∧ hget Hx p' = .arr (bsD X) ∧ e 1 = isD w ∧ e 3 = .ptr m 0 0 ∧ e 7 = .vec (m + 1) 0 (w.length + 1) ∧ e 16 = .int .i64 t ∧ e 17 = .vec p' 0 (w.length + 1) ∧ e 18 = .bool (moreL M X i) ∧ e 19 = .int .i64 i) (fun e H => w.length + 1 - natOf (e 19)) ?_ ?_
                  · exact ⟨0, by omega, hst2, by rw [orL_zero]; exact hout2, hX, by simp (maxSteps := 1000000) (dsimp := false) (disch := omega) only [go_sem, simprocAttr, *], by simp (maxSteps := 1000000) (dsimp := false) (disch := omega) only [go_sem, simprocAttr, *], by simp (maxSteps := 1000000) (dsimp := false) (disch := omega) only [go_sem, simprocAttr, *], by simp (maxSteps := 1000000) (dsimp := false) (disch := omega) only [go_sem, simprocAttr, *], by simp (maxSteps := 1000000) (dsimp := false) (disch := omega) only [go_sem, simprocAttr, *], by simp (maxSteps := 1000000) (dsimp := false) (disch := omega) only [go_sem, simprocAttr, *]; try rfl, rfl⟩
                  · clear hst2 hout2 hX
                    rintro e Hz ⟨i, hi, hst, hout, hX, e1, e3, e7, e16, e17, e18, e19⟩ R3 hR3
                    have hOl := orL_len hM hXl hi
                    have hv1 := vs_bools hout (by omega)
                    have hv2 := vs_bools hX (by omega)
                    repeat' (first | refine wpB_seq ?_ | refine wpB_regionL rfl ?_ | refine wpB_block ?_ | refine wpB_skip ?_ | refine wpB_exit ?_ | refine wpB_ret ?_ | simp (maxSteps := 1000000) (dsimp := false) (disch := omega) only [go_sem, simprocAttr, *])
                    refine wpB_cond (by simp (maxSteps := 1000000) (dsimp := false) (disch := omega) only [go_sem, simprocAttr, *]; exact rfl) (fun hb3 => ?_) (fun hb3 => ?_) <;> try simp (maxSteps := 1000000) (dsimp := false) (disch := omega) only [go_sem, simprocAttr, decide_eq_true_eq, decide_eq_false_iff_not, Bool.not_eq_true, Bool.not_eq_false, Int.not_lt, Int.not_le] at hb3
                    · have hy := bs_at (l := X) (i := i) (by omega)
                      have hz : (bsD (orL M X i))[i]? = some (.bool M[i]) := by simp [bsD, orL_at hM hXl (show i < w.length + 1 by omega)]
                      have hnext := orL_next hM hXl (show i < w.length + 1 by omega)
                      have hmore : moreL M X (i + 1) = (moreL M X i || (X[i] && !M[i])) := by simp [moreL, List.getD, show i < X.length by omega, show i < M.length by omega]
                      have hne : m + 1 ≠ p' := by omega
                      generalize moreL M X i = c at *
                      cases c <;> cases hXi : X[i] <;> cases hMi : M[i] <;>
                      (rw [hXi] at hy hnext hmore
                       rw [hMi] at hz hnext hmore
                       simp only [Bool.true_or, Bool.false_or, Bool.or_true, Bool.or_false, Bool.true_and, Bool.false_and, Bool.and_true, Bool.and_false, Bool.not_true, Bool.not_false] at hnext hmore
                       repeat' (first | refine wpB_seq ?_ | refine wpB_regionL rfl ?_ | refine wpB_block ?_ | refine wpB_skip ?_ | refine wpB_exit ?_ | refine wpB_ret ?_ | simp (maxSteps := 1000000) (dsimp := false) (disch := omega) only [go_sem, simprocAttr, *])
                       refine hR3 _ _ ⟨i + 1, by omega, hst.set (by omega), by rw [hnext, ← bs_set]; exact hget_set_eq (lt_of_hget hout), by rw [hget_set_ne hne]; exact hX, by simp (maxSteps := 1000000) (dsimp := false) (disch := omega) only [go_sem, simprocAttr, *], by simp (maxSteps := 1000000) (dsimp := false) (disch := omega) only [go_sem, simprocAttr, *], by simp (maxSteps := 1000000) (dsimp := false) (disch := omega) only [go_sem, simprocAttr, *], by simp (maxSteps := 1000000) (dsimp := false) (disch := omega) only [go_sem, simprocAttr, *], by simp (maxSteps := 1000000) (dsimp := false) (disch := omega) only [go_sem, simprocAttr, *], by simp (maxSteps := 1000000) (dsimp := false) (disch := omega) only [go_sem, simprocAttr, *], by simp (maxSteps := 1000000) (dsimp := false) (disch := omega) only [go_sem, simprocAttr, *]⟩ ?_
                       simp (maxSteps := 1000000) (dsimp := false) (disch := omega) only [go_sem, simprocAttr, *, natOf_int])
                    · have hii : i = w.length + 1 := by omega
                      subst hii
                      rw [orL_end hM hXl] at hout
                      have hrx := hst.rx
                      rw [if_pos (.inl trivial)] at ha
                      rw [ha] at hR
                      repeat' (first | refine wpB_seq ?_ | refine wpB_regionL rfl ?_ | refine wpB_block ?_ | refine wpB_skip ?_ | refine wpB_exit ?_ | refine wpB_ret ?_ | simp (maxSteps := 1000000) (dsimp := false) (disch := omega) only [go_sem, simprocAttr, *])
                      refine wpB_cond (by simp (maxSteps := 1000000) (dsimp := false) (disch := omega) only [go_sem, simprocAttr, *]; exact rfl) (fun hb4 => ?_) (fun hb4 => ?_) <;> try simp (maxSteps := 1000000) (dsimp := false) (disch := omega) only [go_sem, simprocAttr, decide_eq_true_eq, decide_eq_false_iff_not, Bool.not_eq_true, Bool.not_eq_false, Int.not_lt, Int.not_le] at hb4
                      repeat' (first | refine wpB_seq ?_ | refine wpB_regionL rfl ?_ | refine wpB_block ?_ | refine wpB_skip ?_ | refine wpB_exit ?_ | refine wpB_ret ?_ | simp (maxSteps := 1000000) (dsimp := false) (disch := omega) only [go_sem, simprocAttr, *])
                      exact hR _ _ ⟨m + 1, by omega, by simp (maxSteps := 1000000) (dsimp := false) (disch := omega) only [go_sem, simprocAttr, *], hout, hst.same⟩
                · rw [show w.length + 1 - t = 0 by omega] at ha
                  simp only [roundsB] at ha
                  rw [ha] at hR
                  repeat' (first | refine wpB_seq ?_ | refine wpB_regionL rfl ?_ | refine wpB_block ?_ | refine wpB_skip ?_ | refine wpB_exit ?_ | refine wpB_ret ?_ | simp (maxSteps := 1000000) (dsimp := false) (disch := omega) only [go_sem, simprocAttr, *])
                  exact hR _ _ ⟨m + 1, by omega, by simp (maxSteps := 1000000) (dsimp := false) (disch := omega) only [go_sem, simprocAttr, *], hout, hst.same⟩
        exfalso
        simp only [shapesR, Bool.and_eq_true] at hs
        have := hs.1
        simp [shape1, h0, h1, h2, h3, hK, hL] at this
      · rintro e Hx ⟨p, hp, e7, hout, hs⟩
        repeat' (first | refine wpB_seq ?_ | refine wpB_regionL rfl ?_ | refine wpB_block ?_ | refine wpB_skip ?_ | refine wpB_exit ?_ | refine wpB_ret ?_ | simp (maxSteps := 1000000) (dsimp := false) (disch := omega) only [go_sem, simprocAttr, *])
        exact ⟨by rw [hm]; exact hs, p, by rw [hm]; exact hp, rfl, hout⟩
end Go.Proofs.W
end
/- Expressions: whether they have a word. -/
section
set_option maxHeartbeats 4000000
set_option linter.unusedVariables false
set_option linter.unusedSimpArgs false
namespace Go.Proofs.W
open Go Vm Go.Proofs.Zs06

mutual
theorem ends_nil : ∀ (r : Rx) (hs : shapesR r = true) (b : Bool), endsR [] r [b] = [b && emptyR r]
  | .mk k s l, hs, b => by
    simp only [shapesR, Bool.and_eq_true] at hs
    have hs1 := hs.1
    simp only [endsR, emptyR]
    by_cases h0 : k = 0
    · subst h0; simp
    rw [if_neg h0]
    by_cases h1 : k = 1
    · subst h1; simp [stepB]
    rw [if_neg h1, if_neg h1]
    by_cases h2 : k = 2
    · subst h2; simp only [if_true]; exact endsCat_nil l hs.2 b
    rw [if_neg h2, if_neg h2]
    by_cases h3 : k = 3
    · subst h3; simp only [if_true, List.length_nil, Nat.zero_add, List.replicate_one]; rw [endsAlt_nil l hs.2 b false]; simp
    rw [if_neg h3, if_neg h3]
    by_cases h4 : k = 4 ∨ k = 5
    · rw [if_pos h4]
      simp only [Bool.and_true, List.length_nil, Nat.zero_add, roundsB]
      have := endsOne_nil l hs.2 b
      obtain ⟨c, hc⟩ := this
      rw [hc]
      have : orB [b] [b && c] = [b] := by cases b <;> simp [orB]
      rw [this]; simp
    · simp [shape1, h0, h1, h2, h3, h4] at hs1
theorem endsCat_nil : ∀ (l : List Rx) (hs : shapesL l = true) (b : Bool), endsCat [] l [b] = [b && emptyR.emptyAll l]
  | [], hs, b => by simp [endsCat, emptyR.emptyAll]
  | r :: l, hs, b => by
    simp only [shapesL, Bool.and_eq_true] at hs
    simp only [endsCat, emptyR.emptyAll, ends_nil r hs.1, endsCat_nil l hs.2, Bool.and_assoc]
theorem endsAlt_nil : ∀ (l : List Rx) (hs : shapesL l = true) (b a : Bool), endsAlt [] l [b] [a] = [a || (b && emptyR.emptyAny l)]
  | [], hs, b, a => by simp [endsAlt, emptyR.emptyAny]
  | r :: l, hs, b, a => by
    simp only [shapesL, Bool.and_eq_true] at hs
    simp only [endsAlt, emptyR.emptyAny, ends_nil r hs.1, orB, List.zipWith_cons_cons, List.zipWith_nil_left, endsAlt_nil l hs.2, Bool.and_or_distrib_left, Bool.or_assoc]
theorem endsOne_nil : ∀ (l : List Rx) (hs : shapesL l = true) (b : Bool), ∃ c, endsOne [] l [b] = [b && c]
  | [], hs, b => ⟨true, by simp [endsOne]⟩
  | r :: l, hs, b => by
    simp only [shapesL, Bool.and_eq_true] at hs
    exact ⟨_, ends_nil r hs.1 b⟩
end
def startB (n : Nat) : List Bool := true :: List.replicate n false
def hasR (w : List Int) (r : Rx) : Bool := (endsR w r (startB w.length)).getD w.length false
theorem has_nil (r : Rx) (hs : shapesR r = true) : hasR [] r = emptyR r := by
  simp only [hasR, startB, List.length_nil, List.replicate_zero, ends_nil r hs, Bool.true_and]; rfl
theorem start_len (n : Nat) : (startB n).length = n + 1 := by simp [startB]
theorem hasP_ok (w : List Int) (hw : w.length ≤ 1000) (r : Rx) (hr : okR r) (hs : shapesR r = true) : PureF Try.prog A 23 [rxD r, isD w] (.bool (hasR w r)) := by
  have he := fun (H : Heap) (q : Nat) hq => ends_ok w hw (depth r) r hr (Nat.le_refl _) hs (startB w.length) (start_len _) H q hq
  have hel := ends_len w r (startB w.length) (start_len _)
  have hmk := fun H => mk_bools (n := (w.length : Int) + 1) (H := H) (by omega) (by omega)
  have hnat : ((w.length : Int) + 1).toNat = w.length + 1 := by omega
  simp only [hnat] at hmk
  have c1 := rx_cells r
  have c2 := rx_aggQ r
  have c3 := rx_noTup r
  unfold hasR
  generalize endsR w r (startB w.length) = X at *
  refine evF_inB (n := 20) (rs := [.tmp 4]) Try.func23 rfl rfl rfl rfl rfl rfl ?_
  generalize rxD r = d at *
  have hv : vecSize [Ob.arr [d], Ob.arr (bsD (List.replicate (w.length + 1) false))] 1 1 = true := vs_bools rfl (by simp)
  have hF0 : (bsD (List.replicate (w.length + 1) false))[0]? = some (.bool false) := by simp [bsD, List.replicate_succ]
  have hF1 : (bsD (List.replicate (w.length + 1) false)).set 0 (.bool true) = bsD (startB w.length) := by simp [bsD, List.replicate_succ, startB]
  have hcall := he [Ob.arr [d], Ob.arr (bsD (startB w.length))] 1 rfl
  generalize bsD (List.replicate (w.length + 1) false) = F at *
  clear he
  repeat' (first | refine wpB_seq ?_ | refine wpB_regionL rfl ?_ | refine wpB_block ?_ | refine wpB_skip ?_ | refine wpB_exit ?_ | refine wpB_ret ?_ | simp (maxSteps := 1000000) (dsimp := false) (disch := omega) only [go_sem, simprocAttr, *, isD])
  rw [← isD]
  refine evB_state bo37 rfl rfl hcall ?_ (fun _ _ h => h.elim)
  rintro _ Hy ⟨hsame, p, hp, rfl, hX⟩
  have hvx := vs_bools hX (by omega)
  have hx := bs_at (l := X) (i := w.length) (by omega)
  have hg : X.getD w.length false = X[w.length] := by simp [List.getD, show w.length < X.length by omega]
  rw [hg]
  simp (maxSteps := 1000000) (dsimp := false) (disch := omega) only [go_sem, simprocAttr, *]
  repeat' (first | refine wpB_seq ?_ | refine wpB_regionL rfl ?_ | refine wpB_block ?_ | refine wpB_skip ?_ | refine wpB_exit ?_ | refine wpB_ret ?_ | simp (maxSteps := 1000000) (dsimp := false) (disch := omega) only [go_sem, simprocAttr, *, isD])
end Go.Proofs.W
end
/- Machines with free steps: the document's lists, steps and ends. -/
section
set_option maxHeartbeats 4000000
set_option linter.unusedVariables false
set_option linter.unusedSimpArgs false
namespace Go.Proofs.W
open Go Vm Go.Proofs.Zs06

/-- the numbers of a table -/
def listZ (k : Nat) (p : Nat → Bool) : List Int := ((List.range k).filter p).map fun (i : Nat) => (i : Int)
theorem listZ_succ {k : Nat} {p : Nat → Bool} : listZ (k + 1) p = listZ k p ++ if p k then [(k : Int)] else [] := by
  unfold listZ
  rw [List.range_succ, List.filter_append, List.map_append]
  congr 1
  by_cases h : p k = true <;> simp [h]
theorem listZ_len (k : Nat) (p : Nat → Bool) : (listZ k p).length ≤ k := by
  have := List.length_filter_le p (List.range k)
  simp [listZ] at this ⊢; exact this
theorem mem_listZ {k : Nat} {p : Nat → Bool} {s : Int} : s ∈ listZ k p ↔ ∃ i, i < k ∧ p i = true ∧ s = i := by
  simp only [listZ, List.mem_map, List.mem_filter, List.mem_range]
  exact ⟨fun ⟨a, ⟨h1, h2⟩, h3⟩ => ⟨a, h1, h2, h3.symm⟩, fun ⟨a, h1, h2, h3⟩ => ⟨a, ⟨h1, h2⟩, h3.symm⟩⟩
theorem list_ok (k : Nat) (p : Nat → Bool) (hk : k ≤ 100000) : PureF Try.prog A 19 [tD k p] (isD (listZ k p)) := by
  refine evF_inB (n := 20) (rs := [.tmp 2]) Try.func19 rfl rfl rfl rfl rfl rfl ?_
  repeat' (first | refine wpB_seq ?_ | refine wpB_regionL rfl ?_ | refine wpB_block ?_ | refine wpB_skip ?_ | refine wpB_exit ?_ | refine wpB_ret ?_ | simp (maxSteps := 1000000) (dsimp := false) (disch := omega) only [go_sem, simprocAttr, *, tD] | ((first | refine stepsB_both (fun hh => ?_) (fun hh => ?_) | refine stepsXB_both (fun hh => ?_) (fun hh => ?_)) <;> (try simp (maxSteps := 1000000) (dsimp := false) (disch := omega) only [go_sem, simprocAttr, decide_eq_true_eq, decide_eq_false_iff_not, Bool.not_eq_true, Bool.not_eq_false, Bool.not_eq_true', Bool.not_eq_false', Int.not_lt, Int.not_le, bne_iff_ne, bne_eq_false_iff_eq, beq_iff_eq, beq_eq_false_iff_ne, ne_eq, Int.ofNat_inj, Int.natCast_inj] at hh) <;> (try (exfalso; omega))) | (refine wpB_cond (by simp (maxSteps := 1000000) (dsimp := false) (disch := omega) only [go_sem, simprocAttr, *, tD]; exact rfl) (fun hh => ?_) (fun hh => ?_) <;> (try simp (maxSteps := 1000000) (dsimp := false) (disch := omega) only [go_sem, simprocAttr, decide_eq_true_eq, decide_eq_false_iff_not, Bool.not_eq_true, Bool.not_eq_false, Bool.not_eq_true', Bool.not_eq_false', Int.not_lt, Int.not_le, bne_iff_ne, bne_eq_false_iff_eq, beq_iff_eq, beq_eq_false_iff_ne, ne_eq, Int.ofNat_inj, Int.natCast_inj] at hh) <;> (try (exfalso; omega))))
  refine wpB_loop (fun e H => ∃ (j : Nat) (d : D), j ≤ k ∧ e 0 = tD k p ∧ e 3 = d ∧ VecAt 0 d H ((listZ j p).map (.int .i64)) ∧ e 4 = .int .i64 j) (fun e H => k - natOf (e 4)) ?_ ?_
  · exact ⟨0, .sl true [], by omega, by simp (maxSteps := 1000000) (dsimp := false) (disch := omega) only [go_sem, simprocAttr, *, tD], by simp (maxSteps := 1000000) (dsimp := false) (disch := omega) only [go_sem, simprocAttr, *], VecAt.nil (by simp), by simp (maxSteps := 1000000) (dsimp := false) (disch := omega) only [go_sem, simprocAttr, *]⟩
  · rintro e H ⟨j, d, hj, e0, e3, hv, e4⟩ R hR
    by_cases hb : j < k
    · have hhd := head_tabD k p
      have hn := listZ_succ (k := j) (p := p)
      cases hpj : p j with
      | true =>
        obtain ⟨d', H', ha, hv', hsm⟩ := app_int hv (j : Int) (by have := listZ_len j p; omega)
        rw [hpj] at hn
        simp only [if_true] at hn
        repeat' (first | refine wpB_seq ?_ | refine wpB_regionL rfl ?_ | refine wpB_block ?_ | refine wpB_skip ?_ | refine wpB_exit ?_ | refine wpB_ret ?_ | simp (maxSteps := 1000000) (dsimp := false) (disch := omega) only [go_sem, simprocAttr, *, tD] | ((first | refine stepsB_both (fun hh => ?_) (fun hh => ?_) | refine stepsXB_both (fun hh => ?_) (fun hh => ?_)) <;> (try simp (maxSteps := 1000000) (dsimp := false) (disch := omega) only [go_sem, simprocAttr, decide_eq_true_eq, decide_eq_false_iff_not, Bool.not_eq_true, Bool.not_eq_false, Bool.not_eq_true', Bool.not_eq_false', Int.not_lt, Int.not_le, bne_iff_ne, bne_eq_false_iff_eq, beq_iff_eq, beq_eq_false_iff_ne, ne_eq, Int.ofNat_inj, Int.natCast_inj] at hh) <;> (try (exfalso; omega))) | (refine wpB_cond (by simp (maxSteps := 1000000) (dsimp := false) (disch := omega) only [go_sem, simprocAttr, *, tD]; exact rfl) (fun hh => ?_) (fun hh => ?_) <;> (try simp (maxSteps := 1000000) (dsimp := false) (disch := omega) only [go_sem, simprocAttr, decide_eq_true_eq, decide_eq_false_iff_not, Bool.not_eq_true, Bool.not_eq_false, Bool.not_eq_true', Bool.not_eq_false', Int.not_lt, Int.not_le, bne_iff_ne, bne_eq_false_iff_eq, beq_iff_eq, beq_eq_false_iff_ne, ne_eq, Int.ofNat_inj, Int.natCast_inj] at hh) <;> (try (exfalso; omega))))
        refine hR _ _ ⟨j + 1, d', by omega, by simp (maxSteps := 1000000) (dsimp := false) (disch := omega) only [go_sem, simprocAttr, *, tD], by simp (maxSteps := 1000000) (dsimp := false) (disch := omega) only [go_sem, simprocAttr, *], by rw [hn]; exact hv', by simp (maxSteps := 1000000) (dsimp := false) (disch := omega) only [go_sem, simprocAttr, *]⟩ ?_
        simp (maxSteps := 1000000) (dsimp := false) (disch := omega) only [go_sem, simprocAttr, *, natOf_int]
      | false =>
        rw [hpj] at hn
        simp only [Bool.false_eq_true, if_false, List.append_nil] at hn
        repeat' (first | refine wpB_seq ?_ | refine wpB_regionL rfl ?_ | refine wpB_block ?_ | refine wpB_skip ?_ | refine wpB_exit ?_ | refine wpB_ret ?_ | simp (maxSteps := 1000000) (dsimp := false) (disch := omega) only [go_sem, simprocAttr, *, tD] | ((first | refine stepsB_both (fun hh => ?_) (fun hh => ?_) | refine stepsXB_both (fun hh => ?_) (fun hh => ?_)) <;> (try simp (maxSteps := 1000000) (dsimp := false) (disch := omega) only [go_sem, simprocAttr, decide_eq_true_eq, decide_eq_false_iff_not, Bool.not_eq_true, Bool.not_eq_false, Bool.not_eq_true', Bool.not_eq_false', Int.not_lt, Int.not_le, bne_iff_ne, bne_eq_false_iff_eq, beq_iff_eq, beq_eq_false_iff_ne, ne_eq, Int.ofNat_inj, Int.natCast_inj] at hh) <;> (try (exfalso; omega))) | (refine wpB_cond (by simp (maxSteps := 1000000) (dsimp := false) (disch := omega) only [go_sem, simprocAttr, *, tD]; exact rfl) (fun hh => ?_) (fun hh => ?_) <;> (try simp (maxSteps := 1000000) (dsimp := false) (disch := omega) only [go_sem, simprocAttr, decide_eq_true_eq, decide_eq_false_iff_not, Bool.not_eq_true, Bool.not_eq_false, Bool.not_eq_true', Bool.not_eq_false', Int.not_lt, Int.not_le, bne_iff_ne, bne_eq_false_iff_eq, beq_iff_eq, beq_eq_false_iff_ne, ne_eq, Int.ofNat_inj, Int.natCast_inj] at hh) <;> (try (exfalso; omega))))
        refine hR _ _ ⟨j + 1, d, by omega, by simp (maxSteps := 1000000) (dsimp := false) (disch := omega) only [go_sem, simprocAttr, *, tD], by simp (maxSteps := 1000000) (dsimp := false) (disch := omega) only [go_sem, simprocAttr, *], by rw [hn]; exact hv, by simp (maxSteps := 1000000) (dsimp := false) (disch := omega) only [go_sem, simprocAttr, *]⟩ ?_
        simp (maxSteps := 1000000) (dsimp := false) (disch := omega) only [go_sem, simprocAttr, *, natOf_int]
    · repeat' (first | refine wpB_seq ?_ | refine wpB_regionL rfl ?_ | refine wpB_block ?_ | refine wpB_skip ?_ | refine wpB_exit ?_ | refine wpB_ret ?_ | simp (maxSteps := 1000000) (dsimp := false) (disch := omega) only [go_sem, simprocAttr, *, tD] | ((first | refine stepsB_both (fun hh => ?_) (fun hh => ?_) | refine stepsXB_both (fun hh => ?_) (fun hh => ?_)) <;> (try simp (maxSteps := 1000000) (dsimp := false) (disch := omega) only [go_sem, simprocAttr, decide_eq_true_eq, decide_eq_false_iff_not, Bool.not_eq_true, Bool.not_eq_false, Bool.not_eq_true', Bool.not_eq_false', Int.not_lt, Int.not_le, bne_iff_ne, bne_eq_false_iff_eq, beq_iff_eq, beq_eq_false_iff_ne, ne_eq, Int.ofNat_inj, Int.natCast_inj] at hh) <;> (try (exfalso; omega))) | (refine wpB_cond (by simp (maxSteps := 1000000) (dsimp := false) (disch := omega) only [go_sem, simprocAttr, *, tD]; exact rfl) (fun hh => ?_) (fun hh => ?_) <;> (try simp (maxSteps := 1000000) (dsimp := false) (disch := omega) only [go_sem, simprocAttr, decide_eq_true_eq, decide_eq_false_iff_not, Bool.not_eq_true, Bool.not_eq_false, Bool.not_eq_true', Bool.not_eq_false', Int.not_lt, Int.not_le, bne_iff_ne, bne_eq_false_iff_eq, beq_iff_eq, beq_eq_false_iff_ne, ne_eq, Int.ofNat_inj, Int.natCast_inj] at hh) <;> (try (exfalso; omega))))
      have := hv.out (strip_ints _)
      rw [show j = k by omega] at this
      exact this
/-- a state has a step by a category -/
def hit (n : Nfa) (c : Int) (i : Nat) : Bool := inB (n.set.getD i 0) c
/-- those to which states ahead of one step -/
def stepTo (n : Nfa) (c : Int) (p : Nat → Bool) (j t : Nat) : Bool := (List.range j).any fun i => p i && hit n c i && decide (n.to.getD i 0 = (t : Int))
theorem stepTo_succ {n : Nfa} {c : Int} {p : Nat → Bool} {j t : Nat} : stepTo n c p (j + 1) t = (stepTo n c p j t || (p j && hit n c j && decide (n.to.getD j 0 = (t : Int)))) := by
  simp only [stepTo, List.range_succ, List.any_append, List.any_cons, List.any_nil, Bool.or_false]
theorem bitZ_zero (c : Int) : bitZ 0 c = false := by
  simp [bitZ, IntKind.wrap, IntKind.bits, IntKind.signed]
theorem right_row {n : Nfa} (h : rightN n = true) : 1 ≤ n.set.length ∧ n.set.length ≤ 3300 ∧ n.free.length = n.set.length ∧ n.to.length = n.set.length ∧ n.rule.length = n.set.length ∧ ∀ i, i < n.set.length → rowOk n i = true := by
  simp only [rightN, Bool.and_eq_true, decide_eq_true_eq, allN_iff] at h
  exact ⟨h.1.1, h.1.2.1, h.1.2.2.1, h.1.2.2.2.1, h.1.2.2.2.2, fun i hi => h.2 i (by omega) (by omega)⟩
theorem right_hit {n : Nfa} (h : rightN n = true) {c : Int} {i : Nat} (hi : i < n.set.length) (hh : hit n c i = true) : 0 ≤ n.to.getD i 0 ∧ n.to.getD i 0 < n.set.length := by
  have := (right_row h).2.2.2.2.2 i hi
  simp only [rowOk, Bool.and_eq_true, Bool.not_eq_true', Bool.and_eq_false_iff, decide_eq_false_iff_not] at this
  rcases this.1.1.1 with h1 | h1
  · have h1 : n.set.getD i 0 = 0 := by omega
    rw [hit, h1] at hh
    simp [inB, bitZ_zero] at hh
  · exact isS_iff.1 (by simpa using h1)
end Go.Proofs.W
end
/- Machines with free steps: the document's steps and ends, walked. -/
section
set_option maxHeartbeats 4000000
set_option linter.unusedVariables false
set_option linter.unusedSimpArgs false
namespace Go.Proofs.W
open Go Vm Go.Proofs.Zs06

theorem conv_u64 (c : Int) (H : Heap) : convD Try.prog 3 67 (.int .i64 c) H = some (.int .u64 (IntKind.u64.wrap c), H) := by
  simp only [convD_eq, un3, un67]; rfl
theorem hit_bit {n : Nfa} {c s : Int} {j : Nat} (h0 : 0 ≤ c) (h1 : c < 16) (hs : n.set.getD j 0 = s) : hit n c j = bitZ s c := by
  simp only [hit, inB, h0, h1, hs, decide_true, Bool.true_and]
theorem stepR_ok (n : Nfa) (c : Int) (p : Nat → Bool) (hn : rightN n = true) : PureF Try.prog A 21 [nfaD n, tD n.set.length p, .int .i64 c] (tD n.set.length (stepTo n c p n.set.length)) := by
  obtain ⟨hk, hk2, hf, ht, hr, hrow⟩ := right_row hn
  generalize hkk : n.set.length = k at *
  refine evF_inB (n := 50) (rs := [.tmp 6]) Try.func21 rfl rfl rfl rfl rfl rfl ?_
  repeat' (first | refine wpB_seq ?_ | refine wpB_regionL rfl ?_ | refine wpB_block ?_ | refine wpB_skip ?_ | refine wpB_exit ?_ | refine wpB_ret ?_ | simp (maxSteps := 1000000) (dsimp := false) (disch := omega) only [go_sem, simprocAttr, *, tD, nfaD] | ((first | refine stepsB_both (fun hh => ?_) (fun hh => ?_) | refine stepsXB_both (fun hh => ?_) (fun hh => ?_)) <;> (try simp (maxSteps := 1000000) (dsimp := false) (disch := omega) only [go_sem, simprocAttr, decide_eq_true_eq, decide_eq_false_iff_not, Bool.not_eq_true, Bool.not_eq_false, Bool.not_eq_true', Bool.not_eq_false', Int.not_lt, Int.not_le, bne_iff_ne, bne_eq_false_iff_eq, beq_iff_eq, beq_eq_false_iff_ne, ne_eq, Int.ofNat_inj, Int.natCast_inj] at hh) <;> (try (exfalso; omega))) | (refine wpB_cond (by simp (maxSteps := 1000000) (dsimp := false) (disch := omega) only [go_sem, simprocAttr, *, tD, nfaD]; exact rfl) (fun hh => ?_) (fun hh => ?_) <;> (try simp (maxSteps := 1000000) (dsimp := false) (disch := omega) only [go_sem, simprocAttr, decide_eq_true_eq, decide_eq_false_iff_not, Bool.not_eq_true, Bool.not_eq_false, Bool.not_eq_true', Bool.not_eq_false', Int.not_lt, Int.not_le, bne_iff_ne, bne_eq_false_iff_eq, beq_iff_eq, beq_eq_false_iff_ne, ne_eq, Int.ofNat_inj, Int.natCast_inj] at hh) <;> (try (exfalso; omega))))
  refine wpB_loop (fun e H => ∃ (j : Nat) (q : Nat → Bool), j ≤ k ∧ H = [Ob.arr [nfaD n], Ob.arr (tabD k q)] ∧ e 1 = tD k p ∧ e 2 = .int .i64 c ∧ e 3 = .ptr 0 0 0 ∧ e 7 = .vec 1 0 k ∧ e 8 = .int .i64 j ∧ ∀ s, s < k → q s = stepTo n c p j s) (fun e H => k - natOf (e 8)) ?_ ?_
  · exact ⟨0, _, by omega, rfl, by simp (maxSteps := 1000000) (dsimp := false) (disch := omega) only [go_sem, simprocAttr, *, tD], by simp (maxSteps := 1000000) (dsimp := false) (disch := omega) only [go_sem, simprocAttr, *], by simp (maxSteps := 1000000) (dsimp := false) (disch := omega) only [go_sem, simprocAttr, *], by simp (maxSteps := 1000000) (dsimp := false) (disch := omega) only [go_sem, simprocAttr, *], by simp (maxSteps := 1000000) (dsimp := false) (disch := omega) only [go_sem, simprocAttr, *], fun s _ => rfl⟩
  · rintro e H ⟨j, q, hj, rfl, e1, e2, e3, e7, e8, hq⟩ R hR
    by_cases hb : j < k
    · have hhd := head_tabD k p
      have hvs := tab_size (H := [Ob.arr [nfaD n], Ob.arr (tabD k q)]) (r := 1) rfl hk
      obtain ⟨s, hs1, hs2⟩ := ex_at (l := n.set) (i := j) 0 (by omega)
      obtain ⟨t, ht1, ht2⟩ := ex_at (l := n.to) (i := j) 0 (by omega)
      have no : (p j && hit n c j) = false → ∀ s, s < k → q s = stepTo n c p (j + 1) s := fun h s hs => by rw [hq s hs, stepTo_succ, h]; simp
      have hbit := fun h0 h1 => hit_bit (n := n) (c := c) h0 h1 hs2
      have hto := right_hit hn (c := c) (i := j) (by omega)
      rw [ht2, hkk] at hto
      simp only [bitZ] at hbit
      cases hpj : p j with
      | false =>
        repeat' (first | refine wpB_seq ?_ | refine wpB_regionL rfl ?_ | refine wpB_block ?_ | refine wpB_skip ?_ | refine wpB_exit ?_ | refine wpB_ret ?_ | simp (maxSteps := 1000000) (dsimp := false) (disch := omega) only [go_sem, simprocAttr, *, tD, nfaD, u16D, isD] | ((first | refine stepsB_both (fun hh => ?_) (fun hh => ?_) | refine stepsXB_both (fun hh => ?_) (fun hh => ?_)) <;> (try simp (maxSteps := 1000000) (dsimp := false) (disch := omega) only [go_sem, simprocAttr, decide_eq_true_eq, decide_eq_false_iff_not, Bool.not_eq_true, Bool.not_eq_false, Bool.not_eq_true', Bool.not_eq_false', Int.not_lt, Int.not_le, bne_iff_ne, bne_eq_false_iff_eq, beq_iff_eq, beq_eq_false_iff_ne, ne_eq, Int.ofNat_inj, Int.natCast_inj] at hh) <;> (try (exfalso; omega))) | (refine wpB_cond (by simp (maxSteps := 1000000) (dsimp := false) (disch := omega) only [go_sem, simprocAttr, *, tD, nfaD, u16D, isD]; exact rfl) (fun hh => ?_) (fun hh => ?_) <;> (try simp (maxSteps := 1000000) (dsimp := false) (disch := omega) only [go_sem, simprocAttr, decide_eq_true_eq, decide_eq_false_iff_not, Bool.not_eq_true, Bool.not_eq_false, Bool.not_eq_true', Bool.not_eq_false', Int.not_lt, Int.not_le, bne_iff_ne, bne_eq_false_iff_eq, beq_iff_eq, beq_eq_false_iff_ne, ne_eq, Int.ofNat_inj, Int.natCast_inj] at hh) <;> (try (exfalso; omega))))
        refine hR _ _ ⟨j + 1, q, by omega, by simp (maxSteps := 1000000) (dsimp := false) (disch := omega) only [go_sem, simprocAttr, *, nfaD, u16D, isD], by simp (maxSteps := 1000000) (dsimp := false) (disch := omega) only [go_sem, simprocAttr, *, tD], by simp (maxSteps := 1000000) (dsimp := false) (disch := omega) only [go_sem, simprocAttr, *], by simp (maxSteps := 1000000) (dsimp := false) (disch := omega) only [go_sem, simprocAttr, *], by simp (maxSteps := 1000000) (dsimp := false) (disch := omega) only [go_sem, simprocAttr, *], by simp (maxSteps := 1000000) (dsimp := false) (disch := omega) only [go_sem, simprocAttr, *], no (by rw [hpj]; rfl)⟩ ?_
        simp (maxSteps := 1000000) (dsimp := false) (disch := omega) only [go_sem, simprocAttr, *, natOf_int]
      | true =>
        cases hht : hit n c j with
        | false =>
          by_cases h0 : 0 ≤ c
          · by_cases h1 : c < 16
            · replace hbit := (hbit h0 h1).symm.trans hht
              repeat' (first | refine wpB_seq ?_ | refine wpB_regionL rfl ?_ | refine wpB_block ?_ | refine wpB_skip ?_ | refine wpB_exit ?_ | refine wpB_ret ?_ | simp (maxSteps := 1000000) (dsimp := false) (disch := omega) only [go_sem, simprocAttr, *, tD, nfaD, u16D, isD, conv_u64] | ((first | refine stepsB_both (fun hh => ?_) (fun hh => ?_) | refine stepsXB_both (fun hh => ?_) (fun hh => ?_)) <;> (try simp (maxSteps := 1000000) (dsimp := false) (disch := omega) only [go_sem, simprocAttr, decide_eq_true_eq, decide_eq_false_iff_not, Bool.not_eq_true, Bool.not_eq_false, Bool.not_eq_true', Bool.not_eq_false', Int.not_lt, Int.not_le, bne_iff_ne, bne_eq_false_iff_eq, beq_iff_eq, beq_eq_false_iff_ne, ne_eq, Int.ofNat_inj, Int.natCast_inj] at hh) <;> (try (exfalso; omega))) | (refine wpB_cond (by simp (maxSteps := 1000000) (dsimp := false) (disch := omega) only [go_sem, simprocAttr, *, tD, nfaD, u16D, isD, conv_u64]; exact rfl) (fun hh => ?_) (fun hh => ?_) <;> (try simp (maxSteps := 1000000) (dsimp := false) (disch := omega) only [go_sem, simprocAttr, decide_eq_true_eq, decide_eq_false_iff_not, Bool.not_eq_true, Bool.not_eq_false, Bool.not_eq_true', Bool.not_eq_false', Int.not_lt, Int.not_le, bne_iff_ne, bne_eq_false_iff_eq, beq_iff_eq, beq_eq_false_iff_ne, ne_eq, Int.ofNat_inj, Int.natCast_inj] at hh) <;> (try (exfalso; omega))))
              · exact absurd (hbit.symm.trans (beq_iff_eq.2 (by assumption))) (by decide)
              · refine hR _ _ ⟨j + 1, q, by omega, by simp (maxSteps := 1000000) (dsimp := false) (disch := omega) only [go_sem, simprocAttr, *, nfaD, u16D, isD], by simp (maxSteps := 1000000) (dsimp := false) (disch := omega) only [go_sem, simprocAttr, *, tD], by simp (maxSteps := 1000000) (dsimp := false) (disch := omega) only [go_sem, simprocAttr, *], by simp (maxSteps := 1000000) (dsimp := false) (disch := omega) only [go_sem, simprocAttr, *], by simp (maxSteps := 1000000) (dsimp := false) (disch := omega) only [go_sem, simprocAttr, *], by simp (maxSteps := 1000000) (dsimp := false) (disch := omega) only [go_sem, simprocAttr, *], no (by rw [hht]; simp)⟩ ?_
                simp (maxSteps := 1000000) (dsimp := false) (disch := omega) only [go_sem, simprocAttr, *, natOf_int]
            · clear hbit hto
              repeat' (first | refine wpB_seq ?_ | refine wpB_regionL rfl ?_ | refine wpB_block ?_ | refine wpB_skip ?_ | refine wpB_exit ?_ | refine wpB_ret ?_ | simp (maxSteps := 1000000) (dsimp := false) (disch := omega) only [go_sem, simprocAttr, *, tD, nfaD, u16D, isD] | ((first | refine stepsB_both (fun hh => ?_) (fun hh => ?_) | refine stepsXB_both (fun hh => ?_) (fun hh => ?_)) <;> (try simp (maxSteps := 1000000) (dsimp := false) (disch := omega) only [go_sem, simprocAttr, decide_eq_true_eq, decide_eq_false_iff_not, Bool.not_eq_true, Bool.not_eq_false, Bool.not_eq_true', Bool.not_eq_false', Int.not_lt, Int.not_le, bne_iff_ne, bne_eq_false_iff_eq, beq_iff_eq, beq_eq_false_iff_ne, ne_eq, Int.ofNat_inj, Int.natCast_inj] at hh) <;> (try (exfalso; omega))) | (refine wpB_cond (by simp (maxSteps := 1000000) (dsimp := false) (disch := omega) only [go_sem, simprocAttr, *, tD, nfaD, u16D, isD]; exact rfl) (fun hh => ?_) (fun hh => ?_) <;> (try simp (maxSteps := 1000000) (dsimp := false) (disch := omega) only [go_sem, simprocAttr, decide_eq_true_eq, decide_eq_false_iff_not, Bool.not_eq_true, Bool.not_eq_false, Bool.not_eq_true', Bool.not_eq_false', Int.not_lt, Int.not_le, bne_iff_ne, bne_eq_false_iff_eq, beq_iff_eq, beq_eq_false_iff_ne, ne_eq, Int.ofNat_inj, Int.natCast_inj] at hh) <;> (try (exfalso; omega))))
              refine hR _ _ ⟨j + 1, q, by omega, by simp (maxSteps := 1000000) (dsimp := false) (disch := omega) only [go_sem, simprocAttr, *, nfaD, u16D, isD], by simp (maxSteps := 1000000) (dsimp := false) (disch := omega) only [go_sem, simprocAttr, *, tD], by simp (maxSteps := 1000000) (dsimp := false) (disch := omega) only [go_sem, simprocAttr, *], by simp (maxSteps := 1000000) (dsimp := false) (disch := omega) only [go_sem, simprocAttr, *], by simp (maxSteps := 1000000) (dsimp := false) (disch := omega) only [go_sem, simprocAttr, *], by simp (maxSteps := 1000000) (dsimp := false) (disch := omega) only [go_sem, simprocAttr, *], no (by rw [hht]; simp)⟩ ?_
              simp (maxSteps := 1000000) (dsimp := false) (disch := omega) only [go_sem, simprocAttr, *, natOf_int]
          · clear hbit hto
            repeat' (first | refine wpB_seq ?_ | refine wpB_regionL rfl ?_ | refine wpB_block ?_ | refine wpB_skip ?_ | refine wpB_exit ?_ | refine wpB_ret ?_ | simp (maxSteps := 1000000) (dsimp := false) (disch := omega) only [go_sem, simprocAttr, *, tD, nfaD, u16D, isD] | ((first | refine stepsB_both (fun hh => ?_) (fun hh => ?_) | refine stepsXB_both (fun hh => ?_) (fun hh => ?_)) <;> (try simp (maxSteps := 1000000) (dsimp := false) (disch := omega) only [go_sem, simprocAttr, decide_eq_true_eq, decide_eq_false_iff_not, Bool.not_eq_true, Bool.not_eq_false, Bool.not_eq_true', Bool.not_eq_false', Int.not_lt, Int.not_le, bne_iff_ne, bne_eq_false_iff_eq, beq_iff_eq, beq_eq_false_iff_ne, ne_eq, Int.ofNat_inj, Int.natCast_inj] at hh) <;> (try (exfalso; omega))) | (refine wpB_cond (by simp (maxSteps := 1000000) (dsimp := false) (disch := omega) only [go_sem, simprocAttr, *, tD, nfaD, u16D, isD]; exact rfl) (fun hh => ?_) (fun hh => ?_) <;> (try simp (maxSteps := 1000000) (dsimp := false) (disch := omega) only [go_sem, simprocAttr, decide_eq_true_eq, decide_eq_false_iff_not, Bool.not_eq_true, Bool.not_eq_false, Bool.not_eq_true', Bool.not_eq_false', Int.not_lt, Int.not_le, bne_iff_ne, bne_eq_false_iff_eq, beq_iff_eq, beq_eq_false_iff_ne, ne_eq, Int.ofNat_inj, Int.natCast_inj] at hh) <;> (try (exfalso; omega))))
            refine hR _ _ ⟨j + 1, q, by omega, by simp (maxSteps := 1000000) (dsimp := false) (disch := omega) only [go_sem, simprocAttr, *, nfaD, u16D, isD], by simp (maxSteps := 1000000) (dsimp := false) (disch := omega) only [go_sem, simprocAttr, *, tD], by simp (maxSteps := 1000000) (dsimp := false) (disch := omega) only [go_sem, simprocAttr, *], by simp (maxSteps := 1000000) (dsimp := false) (disch := omega) only [go_sem, simprocAttr, *], by simp (maxSteps := 1000000) (dsimp := false) (disch := omega) only [go_sem, simprocAttr, *], by simp (maxSteps := 1000000) (dsimp := false) (disch := omega) only [go_sem, simprocAttr, *], no (by rw [hht]; simp)⟩ ?_
            simp (maxSteps := 1000000) (dsimp := false) (disch := omega) only [go_sem, simprocAttr, *, natOf_int]
        | true =>
          have hc : 0 ≤ c ∧ c < 16 := by
            simp only [hit, inB, Bool.and_eq_true, decide_eq_true_eq] at hht
            exact hht.1
          obtain ⟨h0, h1⟩ := hc
          replace hbit := (hbit h0 h1).symm.trans hht
          obtain ⟨ht3, ht4⟩ := hto hht
          clear hto
          repeat' (first | refine wpB_seq ?_ | refine wpB_regionL rfl ?_ | refine wpB_block ?_ | refine wpB_skip ?_ | refine wpB_exit ?_ | refine wpB_ret ?_ | simp (maxSteps := 1000000) (dsimp := false) (disch := omega) only [go_sem, simprocAttr, *, tD, nfaD, u16D, isD, conv_u64] | ((first | refine stepsB_both (fun hh => ?_) (fun hh => ?_) | refine stepsXB_both (fun hh => ?_) (fun hh => ?_)) <;> (try simp (maxSteps := 1000000) (dsimp := false) (disch := omega) only [go_sem, simprocAttr, decide_eq_true_eq, decide_eq_false_iff_not, Bool.not_eq_true, Bool.not_eq_false, Bool.not_eq_true', Bool.not_eq_false', Int.not_lt, Int.not_le, bne_iff_ne, bne_eq_false_iff_eq, beq_iff_eq, beq_eq_false_iff_ne, ne_eq, Int.ofNat_inj, Int.natCast_inj] at hh) <;> (try (exfalso; omega))) | (refine wpB_cond (by simp (maxSteps := 1000000) (dsimp := false) (disch := omega) only [go_sem, simprocAttr, *, tD, nfaD, u16D, isD, conv_u64]; exact rfl) (fun hh => ?_) (fun hh => ?_) <;> (try simp (maxSteps := 1000000) (dsimp := false) (disch := omega) only [go_sem, simprocAttr, decide_eq_true_eq, decide_eq_false_iff_not, Bool.not_eq_true, Bool.not_eq_false, Bool.not_eq_true', Bool.not_eq_false', Int.not_lt, Int.not_le, bne_iff_ne, bne_eq_false_iff_eq, beq_iff_eq, beq_eq_false_iff_ne, ne_eq, Int.ofNat_inj, Int.natCast_inj] at hh) <;> (try (exfalso; omega))))
          rotate_left
          · exact absurd (beq_iff_eq.1 hbit) (by assumption)
          refine hR _ _ ⟨j + 1, fun i => if i = t.toNat then true else q i, by omega, by simp (maxSteps := 1000000) (dsimp := false) (disch := omega) only [go_sem, simprocAttr, *, nfaD, u16D, isD], by simp (maxSteps := 1000000) (dsimp := false) (disch := omega) only [go_sem, simprocAttr, *, tD], by simp (maxSteps := 1000000) (dsimp := false) (disch := omega) only [go_sem, simprocAttr, *], by simp (maxSteps := 1000000) (dsimp := false) (disch := omega) only [go_sem, simprocAttr, *], by simp (maxSteps := 1000000) (dsimp := false) (disch := omega) only [go_sem, simprocAttr, *], by simp (maxSteps := 1000000) (dsimp := false) (disch := omega) only [go_sem, simprocAttr, *], fun s hs => ?_⟩ ?_
          · rw [stepTo_succ, hpj, hht, ht2]
            show (if s = t.toNat then true else q s) = _
            by_cases h : s = t.toNat
            · rw [if_pos h, show decide (t = (s : Int)) = true by simp; omega]; simp
            · rw [if_neg h, hq s hs, show decide (t = (s : Int)) = false by simp; omega]; simp
          · simp (maxSteps := 1000000) (dsimp := false) (disch := omega) only [go_sem, simprocAttr, *, natOf_int]
    · repeat' (first | refine wpB_seq ?_ | refine wpB_regionL rfl ?_ | refine wpB_block ?_ | refine wpB_skip ?_ | refine wpB_exit ?_ | refine wpB_ret ?_ | simp (maxSteps := 1000000) (dsimp := false) (disch := omega) only [go_sem, simprocAttr, *, tD, nfaD] | ((first | refine stepsB_both (fun hh => ?_) (fun hh => ?_) | refine stepsXB_both (fun hh => ?_) (fun hh => ?_)) <;> (try simp (maxSteps := 1000000) (dsimp := false) (disch := omega) only [go_sem, simprocAttr, decide_eq_true_eq, decide_eq_false_iff_not, Bool.not_eq_true, Bool.not_eq_false, Bool.not_eq_true', Bool.not_eq_false', Int.not_lt, Int.not_le, bne_iff_ne, bne_eq_false_iff_eq, beq_iff_eq, beq_eq_false_iff_ne, ne_eq, Int.ofNat_inj, Int.natCast_inj] at hh) <;> (try (exfalso; omega))) | (refine wpB_cond (by simp (maxSteps := 1000000) (dsimp := false) (disch := omega) only [go_sem, simprocAttr, *, tD, nfaD]; exact rfl) (fun hh => ?_) (fun hh => ?_) <;> (try simp (maxSteps := 1000000) (dsimp := false) (disch := omega) only [go_sem, simprocAttr, decide_eq_true_eq, decide_eq_false_iff_not, Bool.not_eq_true, Bool.not_eq_false, Bool.not_eq_true', Bool.not_eq_false', Int.not_lt, Int.not_le, bne_iff_ne, bne_eq_false_iff_eq, beq_iff_eq, beq_eq_false_iff_ne, ne_eq, Int.ofNat_inj, Int.natCast_inj] at hh) <;> (try (exfalso; omega))))
      rw [out_tab (k := k) (p := q) rfl hk (by simp)]
      refine congrArg (fun x => some (D.sl false x)) (tabD_congr fun s hs => ?_)
      rw [hq s hs, show j = k by omega]
/-- the least of those that aren't below nothing; -1: none is -/
def bestFrom (o : Int) (l : List Int) : Int := l.foldl (fun o r => if 0 ≤ r ∧ (o < 0 ∨ r < o) then r else o) o
theorem bestFrom_cons {o r : Int} {l : List Int} : bestFrom o (r :: l) = bestFrom (if 0 ≤ r ∧ (o < 0 ∨ r < o) then r else o) l := rfl
theorem bestFrom_spec : ∀ (l : List Int) (o : Int), -1 ≤ o → -1 ≤ bestFrom o l ∧ (∀ r ∈ l, 0 ≤ r → 0 ≤ bestFrom o l ∧ bestFrom o l ≤ r) ∧ (0 ≤ o → 0 ≤ bestFrom o l ∧ bestFrom o l ≤ o) ∧ (bestFrom o l = o ∨ bestFrom o l ∈ l)
  | [], o, ho => ⟨ho, (fun r h => by cases h), fun h => ⟨h, Int.le_refl _⟩, .inl rfl⟩
  | r :: l, o, ho => by
    rw [bestFrom_cons]
    by_cases hc : 0 ≤ r ∧ (o < 0 ∨ r < o)
    · rw [if_pos hc]
      obtain ⟨h1, h2, h3, h4⟩ := bestFrom_spec l r (by omega)
      have h3' := h3 hc.1
      refine ⟨h1, fun x hx h0 => ?_, fun h0 => by omega, ?_⟩
      · rcases List.mem_cons.1 hx with rfl | hx
        · exact h3'
        · exact h2 x hx h0
      · rcases h4 with h4 | h4
        · exact .inr (by rw [h4]; simp)
        · exact .inr (by simp [h4])
    · rw [if_neg hc]
      obtain ⟨h1, h2, h3, h4⟩ := bestFrom_spec l o ho
      refine ⟨h1, fun x hx h0 => ?_, h3, ?_⟩
      · rcases List.mem_cons.1 hx with rfl | hx
        · have := h3 (by omega)
          omega
        · exact h2 x hx h0
      · rcases h4 with h4 | h4
        · exact .inl h4
        · exact .inr (by simp [h4])
theorem best_eq {l : List Int} {v : Int} (h : (v = -1 ∧ ∀ r ∈ l, r < 0) ∨ (0 ≤ v ∧ v ∈ l ∧ ∀ r ∈ l, 0 ≤ r → v ≤ r)) : bestFrom (-1) l = v := by
  obtain ⟨h1, h2, h3, h4⟩ := bestFrom_spec l (-1) (by omega)
  rcases h with ⟨rfl, h⟩ | ⟨h0, hm, hl⟩
  · rcases h4 with h4 | h4
    · exact h4
    · have := h _ h4; omega
  · have h5 := h2 v hm h0
    rcases h4 with h4 | h4
    · omega
    · have := hl _ h4 h5.1; omega
def endsZ (n : Nfa) (l : List Int) : Int := bestFrom (-1) (l.map fun s => n.rule.getD s.toNat 0)
theorem endsR_ok (n : Nfa) (p : Nat → Bool) (hn : rightN n = true) : PureF Try.prog A 22 [nfaD n, tD n.set.length p] (.int .i64 (endsZ n (listZ n.set.length p))) := by
  obtain ⟨hk, hk2, hf, ht, hr, hrow⟩ := right_row hn
  have hrow2 : ∀ i, i < n.set.length → -1 ≤ n.rule.getD i 0 ∧ n.rule.getD i 0 < 16 := fun i hi => by
    have := hrow i hi
    simp only [rowOk, Bool.and_eq_true, decide_eq_true_eq] at this
    exact ⟨this.1.1.2, this.1.2⟩
  have hmem : ∀ r, r ∈ (listZ n.set.length p).map (fun s => n.rule.getD s.toNat 0) ↔ ∃ i, i < n.set.length ∧ p i = true ∧ r = n.rule.getD i 0 := fun r => by
    simp only [List.mem_map, mem_listZ]
    exact ⟨fun ⟨s, ⟨i, h1, h2, h3⟩, h4⟩ => ⟨i, h1, h2, by subst h3; exact h4.symm⟩, fun ⟨i, h1, h2, h3⟩ => ⟨i, ⟨i, h1, h2, rfl⟩, by rw [h3]; rfl⟩⟩
  generalize hkk : n.set.length = k at *
  refine evF_inB (n := 31) (rs := [.tmp 4]) Try.func22 rfl rfl rfl rfl rfl rfl ?_
  repeat' (first | refine wpB_seq ?_ | refine wpB_regionL rfl ?_ | refine wpB_block ?_ | refine wpB_skip ?_ | refine wpB_exit ?_ | refine wpB_ret ?_ | simp (maxSteps := 1000000) (dsimp := false) (disch := omega) only [go_sem, simprocAttr, *, tD, nfaD] | ((first | refine stepsB_both (fun hh => ?_) (fun hh => ?_) | refine stepsXB_both (fun hh => ?_) (fun hh => ?_)) <;> (try simp (maxSteps := 1000000) (dsimp := false) (disch := omega) only [go_sem, simprocAttr, decide_eq_true_eq, decide_eq_false_iff_not, Bool.not_eq_true, Bool.not_eq_false, Bool.not_eq_true', Bool.not_eq_false', Int.not_lt, Int.not_le, bne_iff_ne, bne_eq_false_iff_eq, beq_iff_eq, beq_eq_false_iff_ne, ne_eq, Int.ofNat_inj, Int.natCast_inj] at hh) <;> (try (exfalso; omega))) | (refine wpB_cond (by simp (maxSteps := 1000000) (dsimp := false) (disch := omega) only [go_sem, simprocAttr, *, tD, nfaD]; exact rfl) (fun hh => ?_) (fun hh => ?_) <;> (try simp (maxSteps := 1000000) (dsimp := false) (disch := omega) only [go_sem, simprocAttr, decide_eq_true_eq, decide_eq_false_iff_not, Bool.not_eq_true, Bool.not_eq_false, Bool.not_eq_true', Bool.not_eq_false', Int.not_lt, Int.not_le, bne_iff_ne, bne_eq_false_iff_eq, beq_iff_eq, beq_eq_false_iff_ne, ne_eq, Int.ofNat_inj, Int.natCast_inj] at hh) <;> (try (exfalso; omega))))
  refine wpB_loop (fun e H => ∃ (r : Nat), r ≤ 16 ∧ H = [Ob.arr [nfaD n]] ∧ e 1 = tD k p ∧ e 2 = .ptr 0 0 0 ∧ e 5 = .int .i64 r ∧ ∀ i, i < k → p i = true → 0 ≤ n.rule.getD i 0 → (r : Int) ≤ n.rule.getD i 0) (fun e H => 16 - natOf (e 5)) ?_ ?_
  · exact ⟨0, by omega, rfl, by simp (maxSteps := 1000000) (dsimp := false) (disch := omega) only [go_sem, simprocAttr, *, tD], by simp (maxSteps := 1000000) (dsimp := false) (disch := omega) only [go_sem, simprocAttr, *], by simp (maxSteps := 1000000) (dsimp := false) (disch := omega) only [go_sem, simprocAttr, *], fun i _ _ h => h⟩
  · rintro e H ⟨r, hr0, rfl, e1, e2, e5, hno⟩ R hR
    by_cases hb : r < 16
    · repeat' (first | refine wpB_seq ?_ | refine wpB_regionL rfl ?_ | refine wpB_block ?_ | refine wpB_skip ?_ | refine wpB_exit ?_ | refine wpB_ret ?_ | simp (maxSteps := 1000000) (dsimp := false) (disch := omega) only [go_sem, simprocAttr, *, tD] | ((first | refine stepsB_both (fun hh => ?_) (fun hh => ?_) | refine stepsXB_both (fun hh => ?_) (fun hh => ?_)) <;> (try simp (maxSteps := 1000000) (dsimp := false) (disch := omega) only [go_sem, simprocAttr, decide_eq_true_eq, decide_eq_false_iff_not, Bool.not_eq_true, Bool.not_eq_false, Bool.not_eq_true', Bool.not_eq_false', Int.not_lt, Int.not_le, bne_iff_ne, bne_eq_false_iff_eq, beq_iff_eq, beq_eq_false_iff_ne, ne_eq, Int.ofNat_inj, Int.natCast_inj] at hh) <;> (try (exfalso; omega))) | (refine wpB_cond (by simp (maxSteps := 1000000) (dsimp := false) (disch := omega) only [go_sem, simprocAttr, *, tD]; exact rfl) (fun hh => ?_) (fun hh => ?_) <;> (try simp (maxSteps := 1000000) (dsimp := false) (disch := omega) only [go_sem, simprocAttr, decide_eq_true_eq, decide_eq_false_iff_not, Bool.not_eq_true, Bool.not_eq_false, Bool.not_eq_true', Bool.not_eq_false', Int.not_lt, Int.not_le, bne_iff_ne, bne_eq_false_iff_eq, beq_iff_eq, beq_eq_false_iff_ne, ne_eq, Int.ofNat_inj, Int.natCast_inj] at hh) <;> (try (exfalso; omega))))
      refine wpB_loop (fun e H => ∃ (j : Nat), j ≤ k ∧ H = [Ob.arr [nfaD n]] ∧ e 1 = tD k p ∧ e 2 = .ptr 0 0 0 ∧ e 5 = .int .i64 r ∧ e 6 = .int .i64 j ∧ ∀ i, i < j → p i = true → n.rule.getD i 0 ≠ r) (fun e H => k - natOf (e 6)) ?_ ?_
      · exact ⟨0, by omega, rfl, by simp (maxSteps := 1000000) (dsimp := false) (disch := omega) only [go_sem, simprocAttr, *, tD], by simp (maxSteps := 1000000) (dsimp := false) (disch := omega) only [go_sem, simprocAttr, *], by simp (maxSteps := 1000000) (dsimp := false) (disch := omega) only [go_sem, simprocAttr, *], by simp (maxSteps := 1000000) (dsimp := false) (disch := omega) only [go_sem, simprocAttr, *], fun i h => by omega⟩
      · rintro e H ⟨j, hj, rfl, e1, e2, e5, e6, hno2⟩ R2 hR2
        by_cases hb2 : j < k
        · have hhd := head_tabD k p
          obtain ⟨t, ht1, ht2⟩ := ex_at (l := n.rule) (i := j) 0 (by omega)
          cases hpj : p j with
          | false =>
            repeat' (first | refine wpB_seq ?_ | refine wpB_regionL rfl ?_ | refine wpB_block ?_ | refine wpB_skip ?_ | refine wpB_exit ?_ | refine wpB_ret ?_ | simp (maxSteps := 1000000) (dsimp := false) (disch := omega) only [go_sem, simprocAttr, *, tD, nfaD, isD] | ((first | refine stepsB_both (fun hh => ?_) (fun hh => ?_) | refine stepsXB_both (fun hh => ?_) (fun hh => ?_)) <;> (try simp (maxSteps := 1000000) (dsimp := false) (disch := omega) only [go_sem, simprocAttr, decide_eq_true_eq, decide_eq_false_iff_not, Bool.not_eq_true, Bool.not_eq_false, Bool.not_eq_true', Bool.not_eq_false', Int.not_lt, Int.not_le, bne_iff_ne, bne_eq_false_iff_eq, beq_iff_eq, beq_eq_false_iff_ne, ne_eq, Int.ofNat_inj, Int.natCast_inj] at hh) <;> (try (exfalso; omega))) | (refine wpB_cond (by simp (maxSteps := 1000000) (dsimp := false) (disch := omega) only [go_sem, simprocAttr, *, tD, nfaD, isD]; exact rfl) (fun hh => ?_) (fun hh => ?_) <;> (try simp (maxSteps := 1000000) (dsimp := false) (disch := omega) only [go_sem, simprocAttr, decide_eq_true_eq, decide_eq_false_iff_not, Bool.not_eq_true, Bool.not_eq_false, Bool.not_eq_true', Bool.not_eq_false', Int.not_lt, Int.not_le, bne_iff_ne, bne_eq_false_iff_eq, beq_iff_eq, beq_eq_false_iff_ne, ne_eq, Int.ofNat_inj, Int.natCast_inj] at hh) <;> (try (exfalso; omega))))
            refine hR2 _ _ ⟨j + 1, by omega, by simp (maxSteps := 1000000) (dsimp := false) (disch := omega) only [go_sem, simprocAttr, *, nfaD, isD], by simp (maxSteps := 1000000) (dsimp := false) (disch := omega) only [go_sem, simprocAttr, *, tD], by simp (maxSteps := 1000000) (dsimp := false) (disch := omega) only [go_sem, simprocAttr, *], by simp (maxSteps := 1000000) (dsimp := false) (disch := omega) only [go_sem, simprocAttr, *], by simp (maxSteps := 1000000) (dsimp := false) (disch := omega) only [go_sem, simprocAttr, *], fun i hi hp => ?_⟩ ?_
            · by_cases he : i = j
              · subst he; rw [hpj] at hp; cases hp
              · exact hno2 i (by omega) hp
            · simp (maxSteps := 1000000) (dsimp := false) (disch := omega) only [go_sem, simprocAttr, *, natOf_int]
          | true =>
            repeat' (first | refine wpB_seq ?_ | refine wpB_regionL rfl ?_ | refine wpB_block ?_ | refine wpB_skip ?_ | refine wpB_exit ?_ | refine wpB_ret ?_ | simp (maxSteps := 1000000) (dsimp := false) (disch := omega) only [go_sem, simprocAttr, *, tD, nfaD, isD] | ((first | refine stepsB_both (fun hh => ?_) (fun hh => ?_) | refine stepsXB_both (fun hh => ?_) (fun hh => ?_)) <;> (try simp (maxSteps := 1000000) (dsimp := false) (disch := omega) only [go_sem, simprocAttr, decide_eq_true_eq, decide_eq_false_iff_not, Bool.not_eq_true, Bool.not_eq_false, Bool.not_eq_true', Bool.not_eq_false', Int.not_lt, Int.not_le, bne_iff_ne, bne_eq_false_iff_eq, beq_iff_eq, beq_eq_false_iff_ne, ne_eq, Int.ofNat_inj, Int.natCast_inj] at hh) <;> (try (exfalso; omega))) | (refine wpB_cond (by simp (maxSteps := 1000000) (dsimp := false) (disch := omega) only [go_sem, simprocAttr, *, tD, nfaD, isD]; exact rfl) (fun hh => ?_) (fun hh => ?_) <;> (try simp (maxSteps := 1000000) (dsimp := false) (disch := omega) only [go_sem, simprocAttr, decide_eq_true_eq, decide_eq_false_iff_not, Bool.not_eq_true, Bool.not_eq_false, Bool.not_eq_true', Bool.not_eq_false', Int.not_lt, Int.not_le, bne_iff_ne, bne_eq_false_iff_eq, beq_iff_eq, beq_eq_false_iff_ne, ne_eq, Int.ofNat_inj, Int.natCast_inj] at hh) <;> (try (exfalso; omega))))
            · refine congrArg (fun x => some (D.int .i64 x)) (best_eq (.inr ⟨by omega, (hmem _).2 ⟨j, hb2, hpj, by omega⟩, fun x hx h0 => ?_⟩)).symm
              obtain ⟨i, h1, h2, rfl⟩ := (hmem x).1 hx
              exact hno i h1 h2 h0
            · refine hR2 _ _ ⟨j + 1, by omega, by simp (maxSteps := 1000000) (dsimp := false) (disch := omega) only [go_sem, simprocAttr, *, nfaD, isD], by simp (maxSteps := 1000000) (dsimp := false) (disch := omega) only [go_sem, simprocAttr, *, tD], by simp (maxSteps := 1000000) (dsimp := false) (disch := omega) only [go_sem, simprocAttr, *], by simp (maxSteps := 1000000) (dsimp := false) (disch := omega) only [go_sem, simprocAttr, *], by simp (maxSteps := 1000000) (dsimp := false) (disch := omega) only [go_sem, simprocAttr, *], fun i hi hp => ?_⟩ ?_
              · by_cases he : i = j
                · subst he; omega
                · exact hno2 i (by omega) hp
              · simp (maxSteps := 1000000) (dsimp := false) (disch := omega) only [go_sem, simprocAttr, *, natOf_int]
        · repeat' (first | refine wpB_seq ?_ | refine wpB_regionL rfl ?_ | refine wpB_block ?_ | refine wpB_skip ?_ | refine wpB_exit ?_ | refine wpB_ret ?_ | simp (maxSteps := 1000000) (dsimp := false) (disch := omega) only [go_sem, simprocAttr, *, tD] | ((first | refine stepsB_both (fun hh => ?_) (fun hh => ?_) | refine stepsXB_both (fun hh => ?_) (fun hh => ?_)) <;> (try simp (maxSteps := 1000000) (dsimp := false) (disch := omega) only [go_sem, simprocAttr, decide_eq_true_eq, decide_eq_false_iff_not, Bool.not_eq_true, Bool.not_eq_false, Bool.not_eq_true', Bool.not_eq_false', Int.not_lt, Int.not_le, bne_iff_ne, bne_eq_false_iff_eq, beq_iff_eq, beq_eq_false_iff_ne, ne_eq, Int.ofNat_inj, Int.natCast_inj] at hh) <;> (try (exfalso; omega))) | (refine wpB_cond (by simp (maxSteps := 1000000) (dsimp := false) (disch := omega) only [go_sem, simprocAttr, *, tD]; exact rfl) (fun hh => ?_) (fun hh => ?_) <;> (try simp (maxSteps := 1000000) (dsimp := false) (disch := omega) only [go_sem, simprocAttr, decide_eq_true_eq, decide_eq_false_iff_not, Bool.not_eq_true, Bool.not_eq_false, Bool.not_eq_true', Bool.not_eq_false', Int.not_lt, Int.not_le, bne_iff_ne, bne_eq_false_iff_eq, beq_iff_eq, beq_eq_false_iff_ne, ne_eq, Int.ofNat_inj, Int.natCast_inj] at hh) <;> (try (exfalso; omega))))
          refine hR _ _ ⟨r + 1, by omega, by simp (maxSteps := 1000000) (dsimp := false) (disch := omega) only [go_sem, simprocAttr, *, nfaD, isD], by simp (maxSteps := 1000000) (dsimp := false) (disch := omega) only [go_sem, simprocAttr, *, tD], by simp (maxSteps := 1000000) (dsimp := false) (disch := omega) only [go_sem, simprocAttr, *], by simp (maxSteps := 1000000) (dsimp := false) (disch := omega) only [go_sem, simprocAttr, *], fun i hi hp h0 => ?_⟩ ?_
          · have h1 := hno i hi hp h0
            have h2 := hno2 i (by omega) hp
            omega
          · simp (maxSteps := 1000000) (dsimp := false) (disch := omega) only [go_sem, simprocAttr, *, natOf_int]
    · repeat' (first | refine wpB_seq ?_ | refine wpB_regionL rfl ?_ | refine wpB_block ?_ | refine wpB_skip ?_ | refine wpB_exit ?_ | refine wpB_ret ?_ | simp (maxSteps := 1000000) (dsimp := false) (disch := omega) only [go_sem, simprocAttr, *, tD] | ((first | refine stepsB_both (fun hh => ?_) (fun hh => ?_) | refine stepsXB_both (fun hh => ?_) (fun hh => ?_)) <;> (try simp (maxSteps := 1000000) (dsimp := false) (disch := omega) only [go_sem, simprocAttr, decide_eq_true_eq, decide_eq_false_iff_not, Bool.not_eq_true, Bool.not_eq_false, Bool.not_eq_true', Bool.not_eq_false', Int.not_lt, Int.not_le, bne_iff_ne, bne_eq_false_iff_eq, beq_iff_eq, beq_eq_false_iff_ne, ne_eq, Int.ofNat_inj, Int.natCast_inj] at hh) <;> (try (exfalso; omega))) | (refine wpB_cond (by simp (maxSteps := 1000000) (dsimp := false) (disch := omega) only [go_sem, simprocAttr, *, tD]; exact rfl) (fun hh => ?_) (fun hh => ?_) <;> (try simp (maxSteps := 1000000) (dsimp := false) (disch := omega) only [go_sem, simprocAttr, decide_eq_true_eq, decide_eq_false_iff_not, Bool.not_eq_true, Bool.not_eq_false, Bool.not_eq_true', Bool.not_eq_false', Int.not_lt, Int.not_le, bne_iff_ne, bne_eq_false_iff_eq, beq_iff_eq, beq_eq_false_iff_ne, ne_eq, Int.ofNat_inj, Int.natCast_inj] at hh) <;> (try (exfalso; omega))))
      refine congrArg (fun x => some (D.int .i64 x)) (best_eq (.inl ⟨rfl, fun x hx => ?_⟩)).symm
      obtain ⟨i, h1, h2, rfl⟩ := (hmem x).1 hx
      have h3 := hno i h1 h2
      have h4 := hrow2 i h1
      omega
end Go.Proofs.W
end
/- Loops by a measure that the invariant names; how many are not in a table. -/
section
set_option linter.unusedVariables false
namespace Vm
open Go
theorem wpB_loopM {P : Program} {A : Ann} {N : Nat} {e : Env} {H : Heap} {Q : Ex → Env → Heap → Prop} {b : Code} (I : Nat → Env → Heap → Prop) (m0 : Nat) (h0 : I m0 e H)
    (hstep : ∀ m e H, I m e H → ∀ R : Env → Heap → Prop, (∀ m' e' H', I m' e' H' → m' < m → R e' H') → WpB P A N b e H (SeqQ R Q)) : WpB P A N (.loop b) e H Q := by
  have hf : ∀ (e : Env) (H : Heap), ∃ f : Nat, (∃ m, I m e H) → (I f e H ∧ ∀ m, I m e H → f ≤ m) := by
    intro e H
    by_cases h : ∃ m, I m e H
    · obtain ⟨m, hm⟩ := h
      induction m using Nat.strongRecOn with
      | _ m ih =>
        by_cases hl : ∃ m', m' < m ∧ I m' e H
        · obtain ⟨m', h1, h2⟩ := hl
          exact ih m' h1 h2
        · exact ⟨m, fun _ => ⟨hm, fun m' h' => Nat.le_of_not_lt fun hlt => hl ⟨m', hlt, h'⟩⟩⟩
    · exact ⟨0, fun h' => absurd h' h⟩
  let μ : Env → Heap → Nat := fun e H => Classical.choose (hf e H)
  have hμ : ∀ e H, (∃ m, I m e H) → (I (μ e H) e H ∧ ∀ m, I m e H → μ e H ≤ m) := fun e H => Classical.choose_spec (hf e H)
  refine wpB_loop (fun e H => ∃ m, I m e H) μ ⟨m0, h0⟩ fun e H hI R hR => ?_
  have h1 := hμ e H hI
  refine hstep (μ e H) e H h1.1 R fun m' e' H' h2 h3 => hR e' H' ⟨m', h2⟩ ?_
  exact Nat.lt_of_le_of_lt ((hμ e' H' ⟨m', h2⟩).2 m' h2) h3
/-- how many below a bound aren't in a table -/
def cntF (q : Nat → Bool) : Nat → Nat
  | 0 => 0
  | k + 1 => cntF q k + if q k then 0 else 1
theorem cntF_le {q q' : Nat → Bool} : ∀ {k : Nat}, (∀ s, s < k → q s = true → q' s = true) → cntF q' k ≤ cntF q k
  | 0, _ => Nat.le_refl _
  | k + 1, h => by
    have h1 := cntF_le (k := k) fun s hs => h s (by omega)
    have h2 := h k (by omega)
    simp only [cntF]
    cases hq : q k
    · cases q' k <;> simp <;> omega
    · rw [h2 hq]; simp; exact h1
theorem cntF_lt {q q' : Nat → Bool} : ∀ {k : Nat}, (∀ s, s < k → q s = true → q' s = true) → (∃ s, s < k ∧ q s = false ∧ q' s = true) → cntF q' k < cntF q k
  | 0, _, ⟨s, h, _⟩ => by omega
  | k + 1, h, ⟨s, h1, h2, h3⟩ => by
    have h4 := cntF_le (k := k) fun s hs => h s (by omega)
    simp only [cntF]
    by_cases e : s = k
    · subst e
      rw [h2, h3]; simp; omega
    · have h5 := cntF_lt (k := k) (fun s hs => h s (by omega)) ⟨s, by omega, h2, h3⟩
      have h6 := h k (by omega)
      cases hq : q k
      · cases q' k <;> simp <;> omega
      · rw [h6 hq]; simp; exact h5
/-- plain lists, told one by one -/
def stripS (l : List D) : Option (List D) := stripL l
def consO (d : Option D) (l : Option (List D)) : Option (List D) := d.bind fun d => l.map (d :: ·)
theorem consO_some {d : D} {l : List D} : consO (some d) (some l) = some (d :: l) := rfl
theorem stripS_nil : stripS [] = some [] := rfl
theorem stripS_cons {d : D} {l : List D} : stripS (d :: l) = consO (strip d) (stripS l) := by
  unfold stripS consO
  rw [stripL]
def fzM (b : Prop) [Decidable b] (ys : Option (List D)) (H : Heap) : Option R := fzN b ys H
theorem fzN_S {b : Prop} [Decidable b] {xs : List D} {H : Heap} : fzN b (stripL xs) H = fzM b (stripS xs) H := rfl
theorem fzM_true {ys : List D} {H : Heap} : fzM True (some ys) H = some (.ok (.sl false ys) H) := rfl
theorem fzM_eq {n : Nat} {ys : List D} {H : Heap} : fzM (n = n) (some ys) H = some (.ok (.sl false ys) H) := by simp [fzM, fzN]
theorem strip_intR {k : IntKind} {n : Int} : strip (.int k n) = some (.int k n) := rfl
theorem strip_boolR {b : Bool} : strip (.bool b) = some (.bool b) := rfl
theorem strip_strR {s : List UInt8} : strip (.str s) = some (.str s) := rfl
attribute [go_sem] consO_some stripS_nil stripS_cons fzN_S fzM_true fzM_eq strip_intR strip_boolR strip_strR
end Vm
end
/- Machines with free steps: what free steps lead to; the document's closed tables. -/
section
set_option maxHeartbeats 4000000
set_option linter.unusedVariables false
set_option linter.unusedSimpArgs false
namespace Go.Proofs.W
open Go Vm Go.Proofs.Zs06

inductive Reach (n : Nfa) (p : Nat → Prop) : Nat → Prop
  | base {s : Nat} : p s → Reach n p s
  | step {s t : Nat} : Reach n p s → (t : Int) ∈ n.free.getD s [] → Reach n p t
noncomputable def clo (n : Nfa) (p : Nat → Prop) (s : Nat) : Bool := @decide (Reach n p s) (Classical.propDecidable _)
theorem clo_iff {n : Nfa} {p : Nat → Prop} {s : Nat} : clo n p s = true ↔ Reach n p s := by
  unfold clo; exact @decide_eq_true_iff _ (Classical.propDecidable _)
theorem right_free {n : Nfa} (h : rightN n = true) {i : Nat} (hi : i < n.set.length) {x : Int} (hx : x ∈ n.free.getD i []) : 0 ≤ x ∧ x < n.set.length := by
  have := (right_row h).2.2.2.2.2 i hi
  simp only [rowOk, Bool.and_eq_true, List.all_eq_true] at this
  exact isS_iff.1 (this.2 x hx)
theorem clo_eq {n : Nfa} (hn : rightN n = true) {p : Nat → Prop} (hp : ∀ s, p s → s < n.set.length) {q : Nat → Bool} (h1 : ∀ s, s < n.set.length → p s → q s = true) (h2 : ∀ s, s < n.set.length → q s = true → Reach n p s)
    (h3 : ∀ s, s < n.set.length → q s = true → ∀ t : Nat, (t : Int) ∈ n.free.getD s [] → q t = true) : ∀ s, s < n.set.length → q s = clo n p s := by
  have key : ∀ s, Reach n p s → s < n.set.length ∧ q s = true := by
    intro s h
    induction h with
    | base h => exact ⟨hp _ h, h1 _ (hp _ h) h⟩
    | step h ht ih =>
      have := right_free hn ih.1 ht
      exact ⟨by omega, h3 _ ih.1 ih.2 _ ht⟩
  intro s hs
  rw [Bool.eq_iff_iff, clo_iff]
  exact ⟨h2 s hs, fun h => (key s h).2⟩
theorem closeR_ok (n : Nfa) (p : Nat → Bool) (hn : rightN n = true) (hfl : ∀ l ∈ n.free, l.length ≤ 1000000) : PureF Try.prog A 20 [nfaD n, tD n.set.length p] (tD n.set.length (clo n fun s => s < n.set.length ∧ p s = true)) := by
  obtain ⟨hk, hk2, hf, ht, hr, hrow⟩ := right_row hn
  have hceq := fun q => clo_eq hn (p := fun s => s < n.set.length ∧ p s = true) (fun s h => h.1) (q := q)
  have hfree := fun i hi x hx => right_free hn (i := i) hi (x := x) hx
  generalize hkk : n.set.length = k at *
  refine evF_inB (n := 75) (rs := [.tmp 4]) Try.func20 rfl rfl rfl rfl rfl rfl ?_
  repeat' (first | refine wpB_seq ?_ | refine wpB_regionL rfl ?_ | refine wpB_block ?_ | refine wpB_skip ?_ | refine wpB_exit ?_ | refine wpB_ret ?_ | simp (maxSteps := 1000000) (dsimp := false) (disch := omega) only [go_sem, simprocAttr, *, tD, nfaD] | ((first | refine stepsB_both (fun hh => ?_) (fun hh => ?_) | refine stepsXB_both (fun hh => ?_) (fun hh => ?_)) <;> (try simp (maxSteps := 1000000) (dsimp := false) (disch := omega) only [go_sem, simprocAttr, decide_eq_true_eq, decide_eq_false_iff_not, Bool.not_eq_true, Bool.not_eq_false, Bool.not_eq_true', Bool.not_eq_false', Int.not_lt, Int.not_le, bne_iff_ne, bne_eq_false_iff_eq, beq_iff_eq, beq_eq_false_iff_ne, ne_eq, Int.ofNat_inj, Int.natCast_inj] at hh) <;> (try (exfalso; omega))) | (refine wpB_cond (by simp (maxSteps := 1000000) (dsimp := false) (disch := omega) only [go_sem, simprocAttr, *, tD, nfaD]; exact rfl) (fun hh => ?_) (fun hh => ?_) <;> (try simp (maxSteps := 1000000) (dsimp := false) (disch := omega) only [go_sem, simprocAttr, decide_eq_true_eq, decide_eq_false_iff_not, Bool.not_eq_true, Bool.not_eq_false, Bool.not_eq_true', Bool.not_eq_false', Int.not_lt, Int.not_le, bne_iff_ne, bne_eq_false_iff_eq, beq_iff_eq, beq_eq_false_iff_ne, ne_eq, Int.ofNat_inj, Int.natCast_inj] at hh) <;> (try (exfalso; omega))))
  refine wpB_loop (fun e H => ∃ (j : Nat) (q : Nat → Bool), j ≤ k ∧ H = [Ob.arr [nfaD n], Ob.arr (tabD k q)] ∧ e 1 = tD k p ∧ e 2 = .ptr 0 0 0 ∧ e 5 = .vec 1 0 k ∧ e 6 = .int .i64 j ∧ ∀ s, s < j → q s = p s) (fun e H => k - natOf (e 6)) ?_ ?_
  · exact ⟨0, _, by omega, rfl, by simp (maxSteps := 1000000) (dsimp := false) (disch := omega) only [go_sem, simprocAttr, *, tD], by simp (maxSteps := 1000000) (dsimp := false) (disch := omega) only [go_sem, simprocAttr, *], by simp (maxSteps := 1000000) (dsimp := false) (disch := omega) only [go_sem, simprocAttr, *], by simp (maxSteps := 1000000) (dsimp := false) (disch := omega) only [go_sem, simprocAttr, *], fun s h => by omega⟩
  rintro e H ⟨j, q, hj, rfl, e1, e2, e5, e6, hq⟩ R hR
  have hhd := head_tabD k p
  by_cases hb : j < k
  · repeat' (first | refine wpB_seq ?_ | refine wpB_regionL rfl ?_ | refine wpB_block ?_ | refine wpB_skip ?_ | refine wpB_exit ?_ | refine wpB_ret ?_ | simp (maxSteps := 1000000) (dsimp := false) (disch := omega) only [go_sem, simprocAttr, *, tD, nfaD] | ((first | refine stepsB_both (fun hh => ?_) (fun hh => ?_) | refine stepsXB_both (fun hh => ?_) (fun hh => ?_)) <;> (try simp (maxSteps := 1000000) (dsimp := false) (disch := omega) only [go_sem, simprocAttr, decide_eq_true_eq, decide_eq_false_iff_not, Bool.not_eq_true, Bool.not_eq_false, Bool.not_eq_true', Bool.not_eq_false', Int.not_lt, Int.not_le, bne_iff_ne, bne_eq_false_iff_eq, beq_iff_eq, beq_eq_false_iff_ne, ne_eq, Int.ofNat_inj, Int.natCast_inj] at hh) <;> (try (exfalso; omega))) | (refine wpB_cond (by simp (maxSteps := 1000000) (dsimp := false) (disch := omega) only [go_sem, simprocAttr, *, tD, nfaD]; exact rfl) (fun hh => ?_) (fun hh => ?_) <;> (try simp (maxSteps := 1000000) (dsimp := false) (disch := omega) only [go_sem, simprocAttr, decide_eq_true_eq, decide_eq_false_iff_not, Bool.not_eq_true, Bool.not_eq_false, Bool.not_eq_true', Bool.not_eq_false', Int.not_lt, Int.not_le, bne_iff_ne, bne_eq_false_iff_eq, beq_iff_eq, beq_eq_false_iff_ne, ne_eq, Int.ofNat_inj, Int.natCast_inj] at hh) <;> (try (exfalso; omega))))
    refine hR _ _ ⟨j + 1, fun i => if i = j then p j else q i, by omega, by simp (maxSteps := 1000000) (dsimp := false) (disch := omega) only [go_sem, simprocAttr, *, nfaD], by simp (maxSteps := 1000000) (dsimp := false) (disch := omega) only [go_sem, simprocAttr, *, tD], by simp (maxSteps := 1000000) (dsimp := false) (disch := omega) only [go_sem, simprocAttr, *], by simp (maxSteps := 1000000) (dsimp := false) (disch := omega) only [go_sem, simprocAttr, *], by simp (maxSteps := 1000000) (dsimp := false) (disch := omega) only [go_sem, simprocAttr, *], fun s hs => ?_⟩ ?_
    · show (if s = j then p j else q s) = p s
      by_cases h : s = j
      · rw [if_pos h, h]
      · rw [if_neg h]; exact hq s (by omega)
    · simp (maxSteps := 1000000) (dsimp := false) (disch := omega) only [go_sem, simprocAttr, *, natOf_int]
  replace hq : ∀ s, s < k → q s = p s := fun s hs => hq s (by omega)
  repeat' (first | refine wpB_seq ?_ | refine wpB_regionL rfl ?_ | refine wpB_block ?_ | refine wpB_skip ?_ | refine wpB_exit ?_ | refine wpB_ret ?_ | simp (maxSteps := 1000000) (dsimp := false) (disch := omega) only [go_sem, simprocAttr, *, tD, nfaD] | ((first | refine stepsB_both (fun hh => ?_) (fun hh => ?_) | refine stepsXB_both (fun hh => ?_) (fun hh => ?_)) <;> (try simp (maxSteps := 1000000) (dsimp := false) (disch := omega) only [go_sem, simprocAttr, decide_eq_true_eq, decide_eq_false_iff_not, Bool.not_eq_true, Bool.not_eq_false, Bool.not_eq_true', Bool.not_eq_false', Int.not_lt, Int.not_le, bne_iff_ne, bne_eq_false_iff_eq, beq_iff_eq, beq_eq_false_iff_ne, ne_eq, Int.ofNat_inj, Int.natCast_inj] at hh) <;> (try (exfalso; omega))) | (refine wpB_cond (by simp (maxSteps := 1000000) (dsimp := false) (disch := omega) only [go_sem, simprocAttr, *, tD, nfaD]; exact rfl) (fun hh => ?_) (fun hh => ?_) <;> (try simp (maxSteps := 1000000) (dsimp := false) (disch := omega) only [go_sem, simprocAttr, decide_eq_true_eq, decide_eq_false_iff_not, Bool.not_eq_true, Bool.not_eq_false, Bool.not_eq_true', Bool.not_eq_false', Int.not_lt, Int.not_le, bne_iff_ne, bne_eq_false_iff_eq, beq_iff_eq, beq_eq_false_iff_ne, ne_eq, Int.ofNat_inj, Int.natCast_inj] at hh) <;> (try (exfalso; omega))))
  refine wpB_loopM (fun m e H => ∃ (q : Nat → Bool) (b : Bool), m = cntF q k + (if b then 1 else 0) ∧ H = [Ob.arr [nfaD n], Ob.arr (tabD k q)] ∧ e 2 = .ptr 0 0 0 ∧ e 5 = .vec 1 0 k ∧ e 7 = .bool b ∧ (∀ s, s < k → p s = true → q s = true) ∧ (∀ s, s < k → q s = true → Reach n (fun s => s < k ∧ p s = true) s)
      ∧ (b = false → ∀ s, s < k → q s = true → ∀ t : Nat, (t : Int) ∈ n.free.getD s [] → q t = true)) (cntF q k + 1) ?_ ?_
  · exact ⟨q, true, by simp, by simp (maxSteps := 1000000) (dsimp := false) (disch := omega) only [go_sem, simprocAttr, *, nfaD], by simp (maxSteps := 1000000) (dsimp := false) (disch := omega) only [go_sem, simprocAttr, *], by simp (maxSteps := 1000000) (dsimp := false) (disch := omega) only [go_sem, simprocAttr, *], by simp (maxSteps := 1000000) (dsimp := false) (disch := omega) only [go_sem, simprocAttr, *], fun s h1 h2 => by rw [hq s h1]; exact h2, fun s h1 h2 => .base ⟨h1, by rw [← hq s h1]; exact h2⟩, by simp⟩
  clear hR hq e1 e2 e5 e6 hb hj
  rintro m e H ⟨q0, b, hm, rfl, e2, e5, e7, hq1, hq2, hq3⟩ R hR
  cases b with
  | false =>
    repeat' (first | refine wpB_seq ?_ | refine wpB_regionL rfl ?_ | refine wpB_block ?_ | refine wpB_skip ?_ | refine wpB_exit ?_ | refine wpB_ret ?_ | simp (maxSteps := 1000000) (dsimp := false) (disch := omega) only [go_sem, simprocAttr, *] | ((first | refine stepsB_both (fun hh => ?_) (fun hh => ?_) | refine stepsXB_both (fun hh => ?_) (fun hh => ?_)) <;> (try simp (maxSteps := 1000000) (dsimp := false) (disch := omega) only [go_sem, simprocAttr, decide_eq_true_eq, decide_eq_false_iff_not, Bool.not_eq_true, Bool.not_eq_false, Bool.not_eq_true', Bool.not_eq_false', Int.not_lt, Int.not_le, bne_iff_ne, bne_eq_false_iff_eq, beq_iff_eq, beq_eq_false_iff_ne, ne_eq, Int.ofNat_inj, Int.natCast_inj] at hh) <;> (try (exfalso; omega))) | (refine wpB_cond (by simp (maxSteps := 1000000) (dsimp := false) (disch := omega) only [go_sem, simprocAttr, *]; exact rfl) (fun hh => ?_) (fun hh => ?_) <;> (try simp (maxSteps := 1000000) (dsimp := false) (disch := omega) only [go_sem, simprocAttr, decide_eq_true_eq, decide_eq_false_iff_not, Bool.not_eq_true, Bool.not_eq_false, Bool.not_eq_true', Bool.not_eq_false', Int.not_lt, Int.not_le, bne_iff_ne, bne_eq_false_iff_eq, beq_iff_eq, beq_eq_false_iff_ne, ne_eq, Int.ofNat_inj, Int.natCast_inj] at hh) <;> (try (exfalso; omega))))
    rw [out_tab (k := k) (p := q0) rfl hk (by simp)]
    refine congrArg (fun x => some (D.sl false x)) (tabD_congr (hceq q0 (fun s _ h => hq1 s h.1 h.2) hq2 (hq3 rfl)))
  | true =>
    simp only [if_true] at hm
    clear hq3
    repeat' (first | refine wpB_seq ?_ | refine wpB_regionL rfl ?_ | refine wpB_block ?_ | refine wpB_skip ?_ | refine wpB_exit ?_ | refine wpB_ret ?_ | simp (maxSteps := 1000000) (dsimp := false) (disch := omega) only [go_sem, simprocAttr, *] | ((first | refine stepsB_both (fun hh => ?_) (fun hh => ?_) | refine stepsXB_both (fun hh => ?_) (fun hh => ?_)) <;> (try simp (maxSteps := 1000000) (dsimp := false) (disch := omega) only [go_sem, simprocAttr, decide_eq_true_eq, decide_eq_false_iff_not, Bool.not_eq_true, Bool.not_eq_false, Bool.not_eq_true', Bool.not_eq_false', Int.not_lt, Int.not_le, bne_iff_ne, bne_eq_false_iff_eq, beq_iff_eq, beq_eq_false_iff_ne, ne_eq, Int.ofNat_inj, Int.natCast_inj] at hh) <;> (try (exfalso; omega))) | (refine wpB_cond (by simp (maxSteps := 1000000) (dsimp := false) (disch := omega) only [go_sem, simprocAttr, *]; exact rfl) (fun hh => ?_) (fun hh => ?_) <;> (try simp (maxSteps := 1000000) (dsimp := false) (disch := omega) only [go_sem, simprocAttr, decide_eq_true_eq, decide_eq_false_iff_not, Bool.not_eq_true, Bool.not_eq_false, Bool.not_eq_true', Bool.not_eq_false', Int.not_lt, Int.not_le, bne_iff_ne, bne_eq_false_iff_eq, beq_iff_eq, beq_eq_false_iff_ne, ne_eq, Int.ofNat_inj, Int.natCast_inj] at hh) <;> (try (exfalso; omega))))
    refine wpB_loop (fun e H => ∃ (i : Nat) (q : Nat → Bool) (b : Bool), i ≤ k ∧ H = [Ob.arr [nfaD n], Ob.arr (tabD k q)] ∧ e 2 = .ptr 0 0 0 ∧ e 5 = .vec 1 0 k ∧ e 7 = .bool b ∧ e 8 = .int .i64 i ∧ (∀ s, s < k → q0 s = true → q s = true) ∧ (∀ s, s < k → q s = true → Reach n (fun s => s < k ∧ p s = true) s)
      ∧ (b = true → ∃ s, s < k ∧ q0 s = false ∧ q s = true) ∧ (b = false → ∀ s, s < i → q s = true → ∀ t : Nat, (t : Int) ∈ n.free.getD s [] → q t = true)) (fun e H => k - natOf (e 8)) ?_ ?_
    · exact ⟨0, q0, false, by omega, rfl, by simp (maxSteps := 1000000) (dsimp := false) (disch := omega) only [go_sem, simprocAttr, *], by simp (maxSteps := 1000000) (dsimp := false) (disch := omega) only [go_sem, simprocAttr, *], by simp (maxSteps := 1000000) (dsimp := false) (disch := omega) only [go_sem, simprocAttr, *], by simp (maxSteps := 1000000) (dsimp := false) (disch := omega) only [go_sem, simprocAttr, *], fun _ _ h => h, hq2, (by simp), fun _ s h => by omega⟩
    clear e2 e5 e7
    rintro eo H ⟨i, q, b, hi, rfl, e2, e5, e7, e8o, hs1, hs2, hs3, hs4⟩ R2 hR2
    by_cases hb : i < k
    · repeat' (first | refine wpB_seq ?_ | refine wpB_regionL rfl ?_ | refine wpB_block ?_ | refine wpB_skip ?_ | refine wpB_exit ?_ | refine wpB_ret ?_ | simp (maxSteps := 1000000) (dsimp := false) (disch := omega) only [go_sem, simprocAttr, *] | ((first | refine stepsB_both (fun hh => ?_) (fun hh => ?_) | refine stepsXB_both (fun hh => ?_) (fun hh => ?_)) <;> (try simp (maxSteps := 1000000) (dsimp := false) (disch := omega) only [go_sem, simprocAttr, decide_eq_true_eq, decide_eq_false_iff_not, Bool.not_eq_true, Bool.not_eq_false, Bool.not_eq_true', Bool.not_eq_false', Int.not_lt, Int.not_le, bne_iff_ne, bne_eq_false_iff_eq, beq_iff_eq, beq_eq_false_iff_ne, ne_eq, Int.ofNat_inj, Int.natCast_inj] at hh) <;> (try (exfalso; omega))) | (refine wpB_cond (by simp (maxSteps := 1000000) (dsimp := false) (disch := omega) only [go_sem, simprocAttr, *]; exact rfl) (fun hh => ?_) (fun hh => ?_) <;> (try simp (maxSteps := 1000000) (dsimp := false) (disch := omega) only [go_sem, simprocAttr, decide_eq_true_eq, decide_eq_false_iff_not, Bool.not_eq_true, Bool.not_eq_false, Bool.not_eq_true', Bool.not_eq_false', Int.not_lt, Int.not_le, bne_iff_ne, bne_eq_false_iff_eq, beq_iff_eq, beq_eq_false_iff_ne, ne_eq, Int.ofNat_inj, Int.natCast_inj] at hh) <;> (try (exfalso; omega))))
      obtain ⟨fr, hf1, hf2⟩ := ex_at (l := n.free) (i := i) [] (by omega)
      have hfx := hfree i hb
      rw [hf2] at hfx
      have hfrl := hfl fr (List.mem_of_getElem? hf1)
      refine wpB_loop (fun e H => ∃ (j : Nat) (q : Nat → Bool) (b : Bool), j ≤ fr.length ∧ H = [Ob.arr [nfaD n], Ob.arr (tabD k q)] ∧ e 2 = .ptr 0 0 0 ∧ e 5 = .vec 1 0 k ∧ e 7 = .bool b ∧ e 8 = .int .i64 i ∧ e 9 = .int .i64 j ∧ (∀ s, s < k → q0 s = true → q s = true) ∧ (∀ s, s < k → q s = true → Reach n (fun s => s < k ∧ p s = true) s)
        ∧ (b = true → ∃ s, s < k ∧ q0 s = false ∧ q s = true) ∧ (b = false → (∀ s, s < i → q s = true → ∀ t : Nat, (t : Int) ∈ n.free.getD s [] → q t = true) ∧ (q i = true → ∀ t : Nat, (t : Int) ∈ fr.take j → q t = true))) (fun e H => fr.length - natOf (e 9)) ?_ ?_
      · exact ⟨0, q, b, by omega, rfl, by simp (maxSteps := 1000000) (dsimp := false) (disch := omega) only [go_sem, simprocAttr, *], by simp (maxSteps := 1000000) (dsimp := false) (disch := omega) only [go_sem, simprocAttr, *], by simp (maxSteps := 1000000) (dsimp := false) (disch := omega) only [go_sem, simprocAttr, *], by simp (maxSteps := 1000000) (dsimp := false) (disch := omega) only [go_sem, simprocAttr, *], by simp (maxSteps := 1000000) (dsimp := false) (disch := omega) only [go_sem, simprocAttr, *], hs1, hs2, hs3, fun h => ⟨hs4 h, fun _ t ht => by simp at ht⟩⟩
      clear e2 e5 e7 hs1 hs2 hs3 hs4
      rintro e H ⟨j, q, b, hj, rfl, e2, e5, e7, e8, e9, hs1, hs2, hs3, hs4⟩ R3 hR3
      by_cases hb2 : j < fr.length
      · cases hqi : q i with
        | false =>
          repeat' (first | refine wpB_seq ?_ | refine wpB_regionL rfl ?_ | refine wpB_block ?_ | refine wpB_skip ?_ | refine wpB_exit ?_ | refine wpB_ret ?_ | simp (maxSteps := 1000000) (dsimp := false) (disch := omega) only [go_sem, simprocAttr, *, nfaD, issD, isD] | ((first | refine stepsB_both (fun hh => ?_) (fun hh => ?_) | refine stepsXB_both (fun hh => ?_) (fun hh => ?_)) <;> (try simp (maxSteps := 1000000) (dsimp := false) (disch := omega) only [go_sem, simprocAttr, decide_eq_true_eq, decide_eq_false_iff_not, Bool.not_eq_true, Bool.not_eq_false, Bool.not_eq_true', Bool.not_eq_false', Int.not_lt, Int.not_le, bne_iff_ne, bne_eq_false_iff_eq, beq_iff_eq, beq_eq_false_iff_ne, ne_eq, Int.ofNat_inj, Int.natCast_inj] at hh) <;> (try (exfalso; omega))) | (refine wpB_cond (by simp (maxSteps := 1000000) (dsimp := false) (disch := omega) only [go_sem, simprocAttr, *, nfaD, issD, isD]; exact rfl) (fun hh => ?_) (fun hh => ?_) <;> (try simp (maxSteps := 1000000) (dsimp := false) (disch := omega) only [go_sem, simprocAttr, decide_eq_true_eq, decide_eq_false_iff_not, Bool.not_eq_true, Bool.not_eq_false, Bool.not_eq_true', Bool.not_eq_false', Int.not_lt, Int.not_le, bne_iff_ne, bne_eq_false_iff_eq, beq_iff_eq, beq_eq_false_iff_ne, ne_eq, Int.ofNat_inj, Int.natCast_inj] at hh) <;> (try (exfalso; omega))))
          refine hR2 _ _ ⟨i + 1, q, b, by omega, by simp (maxSteps := 1000000) (dsimp := false) (disch := omega) only [go_sem, simprocAttr, *, nfaD, issD, isD], by simp (maxSteps := 1000000) (dsimp := false) (disch := omega) only [go_sem, simprocAttr, *], by simp (maxSteps := 1000000) (dsimp := false) (disch := omega) only [go_sem, simprocAttr, *], by simp (maxSteps := 1000000) (dsimp := false) (disch := omega) only [go_sem, simprocAttr, *], by simp (maxSteps := 1000000) (dsimp := false) (disch := omega) only [go_sem, simprocAttr, *], hs1, hs2, hs3, fun h s hs hq => ?_⟩ ?_
          · by_cases he : s = i
            · subst he; rw [hqi] at hq; cases hq
            · exact (hs4 h).1 s (by omega) hq
          · simp (maxSteps := 1000000) (dsimp := false) (disch := omega) only [go_sem, simprocAttr, *, natOf_int]
        | true =>
          obtain ⟨hfj1, hfj2⟩ := hfx fr[j] (List.getElem_mem hb2)
          obtain ⟨t, ht0⟩ : ∃ t : Nat, fr[j] = (t : Int) := ⟨fr[j].toNat, by omega⟩
          have htk : t < k := by omega
          have hx : fr[j]? = some (t : Int) := by rw [List.getElem?_eq_getElem hb2, ht0]
          have hmem : (t : Int) ∈ n.free.getD i [] := by rw [hf2]; exact List.mem_of_getElem? hx
          have htake : fr.take (j + 1) = fr.take j ++ [(t : Int)] := by rw [take_succ' hb2, ht0]
          clear hfj1 hfj2 ht0
          have g1 : ∀ s, s < k → q0 s = true → (if s = t then true else q s) = true := fun s h1 h2 => by rw [hs1 s h1 h2]; simp
          have g2 : ∀ s, s < k → (if s = t then true else q s) = true → Reach n (fun s => s < k ∧ p s = true) s := fun s h1 h2 => by
            by_cases he : s = t
            · subst he; exact .step (hs2 i hb hqi) hmem
            · rw [if_neg he] at h2; exact hs2 s h1 h2
          have same : q t = true → ∀ s, (if s = t then true else q s) = q s := fun h s => by
            by_cases he : s = t
            · subst he; rw [if_pos rfl, h]
            · rw [if_neg he]
          have g4 : b = false → q t = true → (∀ s, s < i → (if s = t then true else q s) = true → ∀ t' : Nat, (t' : Int) ∈ n.free.getD s [] → (if t' = t then true else q t') = true) ∧ ((if i = t then true else q i) = true → ∀ t' : Nat, (t' : Int) ∈ fr.take (j + 1) → (if t' = t then true else q t') = true) := fun h h2 => by
            obtain ⟨k1, k2⟩ := hs4 h
            refine ⟨fun s hs hq t' ht' => ?_, fun hq t' ht' => ?_⟩
            · rw [same h2] at hq ⊢; exact k1 s hs hq t' ht'
            · rw [same h2] at hq ⊢
              rw [htake, List.mem_append] at ht'
              rcases ht' with h3 | h3
              · exact k2 hq t' h3
              · have : t' = t := by simp at h3; omega
                subst this; exact h2
          clear hfx hq2 hs2 hs4 htake hmem hm hq1
          cases b with
          | true =>
            obtain ⟨s0, k1, k2, k3⟩ := hs3 rfl
            clear hs3
            repeat' (first | refine wpB_seq ?_ | refine wpB_regionL rfl ?_ | refine wpB_block ?_ | refine wpB_skip ?_ | refine wpB_exit ?_ | refine wpB_ret ?_ | simp (maxSteps := 1000000) (dsimp := false) (disch := omega) only [go_sem, simprocAttr, *, nfaD, issD, isD] | ((first | refine stepsB_both (fun hh => ?_) (fun hh => ?_) | refine stepsXB_both (fun hh => ?_) (fun hh => ?_)) <;> (try simp (maxSteps := 1000000) (dsimp := false) (disch := omega) only [go_sem, simprocAttr, decide_eq_true_eq, decide_eq_false_iff_not, Bool.not_eq_true, Bool.not_eq_false, Bool.not_eq_true', Bool.not_eq_false', Int.not_lt, Int.not_le, bne_iff_ne, bne_eq_false_iff_eq, beq_iff_eq, beq_eq_false_iff_ne, ne_eq, Int.ofNat_inj, Int.natCast_inj] at hh) <;> (try (exfalso; omega))) | (refine wpB_cond (by simp (maxSteps := 1000000) (dsimp := false) (disch := omega) only [go_sem, simprocAttr, *, nfaD, issD, isD]; exact rfl) (fun hh => ?_) (fun hh => ?_) <;> (try simp (maxSteps := 1000000) (dsimp := false) (disch := omega) only [go_sem, simprocAttr, decide_eq_true_eq, decide_eq_false_iff_not, Bool.not_eq_true, Bool.not_eq_false, Bool.not_eq_true', Bool.not_eq_false', Int.not_lt, Int.not_le, bne_iff_ne, bne_eq_false_iff_eq, beq_iff_eq, beq_eq_false_iff_ne, ne_eq, Int.ofNat_inj, Int.natCast_inj] at hh) <;> (try (exfalso; omega))))
            refine hR3 _ _ ⟨j + 1, fun s => if s = t then true else q s, true, by omega, by simp (maxSteps := 1000000) (dsimp := false) (disch := omega) only [go_sem, simprocAttr, *, nfaD, issD, isD], by simp (maxSteps := 1000000) (dsimp := false) (disch := omega) only [go_sem, simprocAttr, *], by simp (maxSteps := 1000000) (dsimp := false) (disch := omega) only [go_sem, simprocAttr, *], by simp (maxSteps := 1000000) (dsimp := false) (disch := omega) only [go_sem, simprocAttr, *], by simp (maxSteps := 1000000) (dsimp := false) (disch := omega) only [go_sem, simprocAttr, *], by simp (maxSteps := 1000000) (dsimp := false) (disch := omega) only [go_sem, simprocAttr, *], g1, g2, fun _ => ⟨s0, k1, k2, ?_⟩, by simp⟩ ?_
            · show (if s0 = t then true else q s0) = true
              rw [k3]; simp
            · simp (maxSteps := 1000000) (dsimp := false) (disch := omega) only [go_sem, simprocAttr, *, natOf_int]
          | false =>
            clear hs3
            cases hqt : q t with
            | true =>
              repeat' (first | refine wpB_seq ?_ | refine wpB_regionL rfl ?_ | refine wpB_block ?_ | refine wpB_skip ?_ | refine wpB_exit ?_ | refine wpB_ret ?_ | simp (maxSteps := 1000000) (dsimp := false) (disch := omega) only [go_sem, simprocAttr, *, nfaD, issD, isD] | ((first | refine stepsB_both (fun hh => ?_) (fun hh => ?_) | refine stepsXB_both (fun hh => ?_) (fun hh => ?_)) <;> (try simp (maxSteps := 1000000) (dsimp := false) (disch := omega) only [go_sem, simprocAttr, decide_eq_true_eq, decide_eq_false_iff_not, Bool.not_eq_true, Bool.not_eq_false, Bool.not_eq_true', Bool.not_eq_false', Int.not_lt, Int.not_le, bne_iff_ne, bne_eq_false_iff_eq, beq_iff_eq, beq_eq_false_iff_ne, ne_eq, Int.ofNat_inj, Int.natCast_inj] at hh) <;> (try (exfalso; omega))) | (refine wpB_cond (by simp (maxSteps := 1000000) (dsimp := false) (disch := omega) only [go_sem, simprocAttr, *, nfaD, issD, isD]; exact rfl) (fun hh => ?_) (fun hh => ?_) <;> (try simp (maxSteps := 1000000) (dsimp := false) (disch := omega) only [go_sem, simprocAttr, decide_eq_true_eq, decide_eq_false_iff_not, Bool.not_eq_true, Bool.not_eq_false, Bool.not_eq_true', Bool.not_eq_false', Int.not_lt, Int.not_le, bne_iff_ne, bne_eq_false_iff_eq, beq_iff_eq, beq_eq_false_iff_ne, ne_eq, Int.ofNat_inj, Int.natCast_inj] at hh) <;> (try (exfalso; omega))))
              refine hR3 _ _ ⟨j + 1, fun s => if s = t then true else q s, false, by omega, by simp (maxSteps := 1000000) (dsimp := false) (disch := omega) only [go_sem, simprocAttr, *, nfaD, issD, isD], by simp (maxSteps := 1000000) (dsimp := false) (disch := omega) only [go_sem, simprocAttr, *], by simp (maxSteps := 1000000) (dsimp := false) (disch := omega) only [go_sem, simprocAttr, *], by simp (maxSteps := 1000000) (dsimp := false) (disch := omega) only [go_sem, simprocAttr, *], by simp (maxSteps := 1000000) (dsimp := false) (disch := omega) only [go_sem, simprocAttr, *], by simp (maxSteps := 1000000) (dsimp := false) (disch := omega) only [go_sem, simprocAttr, *], g1, g2, by simp, fun _ => g4 rfl hqt⟩ ?_
              simp (maxSteps := 1000000) (dsimp := false) (disch := omega) only [go_sem, simprocAttr, *, natOf_int]
            | false =>
              have h0 : q0 t = false := by
                cases h : q0 t with
                | false => rfl
                | true => rw [hs1 t htk h] at hqt; cases hqt
              repeat' (first | refine wpB_seq ?_ | refine wpB_regionL rfl ?_ | refine wpB_block ?_ | refine wpB_skip ?_ | refine wpB_exit ?_ | refine wpB_ret ?_ | simp (maxSteps := 1000000) (dsimp := false) (disch := omega) only [go_sem, simprocAttr, *, nfaD, issD, isD] | ((first | refine stepsB_both (fun hh => ?_) (fun hh => ?_) | refine stepsXB_both (fun hh => ?_) (fun hh => ?_)) <;> (try simp (maxSteps := 1000000) (dsimp := false) (disch := omega) only [go_sem, simprocAttr, decide_eq_true_eq, decide_eq_false_iff_not, Bool.not_eq_true, Bool.not_eq_false, Bool.not_eq_true', Bool.not_eq_false', Int.not_lt, Int.not_le, bne_iff_ne, bne_eq_false_iff_eq, beq_iff_eq, beq_eq_false_iff_ne, ne_eq, Int.ofNat_inj, Int.natCast_inj] at hh) <;> (try (exfalso; omega))) | (refine wpB_cond (by simp (maxSteps := 1000000) (dsimp := false) (disch := omega) only [go_sem, simprocAttr, *, nfaD, issD, isD]; exact rfl) (fun hh => ?_) (fun hh => ?_) <;> (try simp (maxSteps := 1000000) (dsimp := false) (disch := omega) only [go_sem, simprocAttr, decide_eq_true_eq, decide_eq_false_iff_not, Bool.not_eq_true, Bool.not_eq_false, Bool.not_eq_true', Bool.not_eq_false', Int.not_lt, Int.not_le, bne_iff_ne, bne_eq_false_iff_eq, beq_iff_eq, beq_eq_false_iff_ne, ne_eq, Int.ofNat_inj, Int.natCast_inj] at hh) <;> (try (exfalso; omega))))
              refine hR3 _ _ ⟨j + 1, fun s => if s = t then true else q s, true, by omega, by simp (maxSteps := 1000000) (dsimp := false) (disch := omega) only [go_sem, simprocAttr, *, nfaD, issD, isD], by simp (maxSteps := 1000000) (dsimp := false) (disch := omega) only [go_sem, simprocAttr, *], by simp (maxSteps := 1000000) (dsimp := false) (disch := omega) only [go_sem, simprocAttr, *], by simp (maxSteps := 1000000) (dsimp := false) (disch := omega) only [go_sem, simprocAttr, *], by simp (maxSteps := 1000000) (dsimp := false) (disch := omega) only [go_sem, simprocAttr, *], by simp (maxSteps := 1000000) (dsimp := false) (disch := omega) only [go_sem, simprocAttr, *], g1, g2, fun _ => ⟨t, htk, h0, by simp⟩, by simp⟩ ?_
              simp (maxSteps := 1000000) (dsimp := false) (disch := omega) only [go_sem, simprocAttr, *, natOf_int]
      · repeat' (first | refine wpB_seq ?_ | refine wpB_regionL rfl ?_ | refine wpB_block ?_ | refine wpB_skip ?_ | refine wpB_exit ?_ | refine wpB_ret ?_ | simp (maxSteps := 1000000) (dsimp := false) (disch := omega) only [go_sem, simprocAttr, *, nfaD, issD, isD] | ((first | refine stepsB_both (fun hh => ?_) (fun hh => ?_) | refine stepsXB_both (fun hh => ?_) (fun hh => ?_)) <;> (try simp (maxSteps := 1000000) (dsimp := false) (disch := omega) only [go_sem, simprocAttr, decide_eq_true_eq, decide_eq_false_iff_not, Bool.not_eq_true, Bool.not_eq_false, Bool.not_eq_true', Bool.not_eq_false', Int.not_lt, Int.not_le, bne_iff_ne, bne_eq_false_iff_eq, beq_iff_eq, beq_eq_false_iff_ne, ne_eq, Int.ofNat_inj, Int.natCast_inj] at hh) <;> (try (exfalso; omega))) | (refine wpB_cond (by simp (maxSteps := 1000000) (dsimp := false) (disch := omega) only [go_sem, simprocAttr, *, nfaD, issD, isD]; exact rfl) (fun hh => ?_) (fun hh => ?_) <;> (try simp (maxSteps := 1000000) (dsimp := false) (disch := omega) only [go_sem, simprocAttr, decide_eq_true_eq, decide_eq_false_iff_not, Bool.not_eq_true, Bool.not_eq_false, Bool.not_eq_true', Bool.not_eq_false', Int.not_lt, Int.not_le, bne_iff_ne, bne_eq_false_iff_eq, beq_iff_eq, beq_eq_false_iff_ne, ne_eq, Int.ofNat_inj, Int.natCast_inj] at hh) <;> (try (exfalso; omega))))
        refine hR2 _ _ ⟨i + 1, q, b, by omega, by simp (maxSteps := 1000000) (dsimp := false) (disch := omega) only [go_sem, simprocAttr, *, nfaD, issD, isD], by simp (maxSteps := 1000000) (dsimp := false) (disch := omega) only [go_sem, simprocAttr, *], by simp (maxSteps := 1000000) (dsimp := false) (disch := omega) only [go_sem, simprocAttr, *], by simp (maxSteps := 1000000) (dsimp := false) (disch := omega) only [go_sem, simprocAttr, *], by simp (maxSteps := 1000000) (dsimp := false) (disch := omega) only [go_sem, simprocAttr, *], hs1, hs2, hs3, fun h s hs hq t ht => ?_⟩ ?_
        · by_cases he : s = i
          · subst he
            rw [hf2] at ht
            exact (hs4 h).2 hq t (by rw [List.take_of_length_le (by omega)]; exact ht)
          · exact (hs4 h).1 s (by omega) hq t ht
        · simp (maxSteps := 1000000) (dsimp := false) (disch := omega) only [go_sem, simprocAttr, *, natOf_int]
    · repeat' (first | refine wpB_seq ?_ | refine wpB_regionL rfl ?_ | refine wpB_block ?_ | refine wpB_skip ?_ | refine wpB_exit ?_ | refine wpB_ret ?_ | simp (maxSteps := 1000000) (dsimp := false) (disch := omega) only [go_sem, simprocAttr, *, nfaD] | ((first | refine stepsB_both (fun hh => ?_) (fun hh => ?_) | refine stepsXB_both (fun hh => ?_) (fun hh => ?_)) <;> (try simp (maxSteps := 1000000) (dsimp := false) (disch := omega) only [go_sem, simprocAttr, decide_eq_true_eq, decide_eq_false_iff_not, Bool.not_eq_true, Bool.not_eq_false, Bool.not_eq_true', Bool.not_eq_false', Int.not_lt, Int.not_le, bne_iff_ne, bne_eq_false_iff_eq, beq_iff_eq, beq_eq_false_iff_ne, ne_eq, Int.ofNat_inj, Int.natCast_inj] at hh) <;> (try (exfalso; omega))) | (refine wpB_cond (by simp (maxSteps := 1000000) (dsimp := false) (disch := omega) only [go_sem, simprocAttr, *, nfaD]; exact rfl) (fun hh => ?_) (fun hh => ?_) <;> (try simp (maxSteps := 1000000) (dsimp := false) (disch := omega) only [go_sem, simprocAttr, decide_eq_true_eq, decide_eq_false_iff_not, Bool.not_eq_true, Bool.not_eq_false, Bool.not_eq_true', Bool.not_eq_false', Int.not_lt, Int.not_le, bne_iff_ne, bne_eq_false_iff_eq, beq_iff_eq, beq_eq_false_iff_ne, ne_eq, Int.ofNat_inj, Int.natCast_inj] at hh) <;> (try (exfalso; omega))))
      refine hR _ _ _ ⟨q, b, rfl, by simp (maxSteps := 1000000) (dsimp := false) (disch := omega) only [go_sem, simprocAttr, *, nfaD], by simp (maxSteps := 1000000) (dsimp := false) (disch := omega) only [go_sem, simprocAttr, *], by simp (maxSteps := 1000000) (dsimp := false) (disch := omega) only [go_sem, simprocAttr, *], by simp (maxSteps := 1000000) (dsimp := false) (disch := omega) only [go_sem, simprocAttr, *], fun s h1 h2 => hs1 s h1 (hq1 s h1 h2), hs2, fun h s h1 h2 => hs4 h s (by omega) h2⟩ ?_
      rw [hm]
      cases b with
      | true => have := cntF_lt hs1 (hs3 rfl); simp; omega
      | false => have := cntF_le (k := k) hs1; simp; omega
end Go.Proofs.W
end
/- Machines with free steps: all states by free steps, depth first. -/
section
set_option maxHeartbeats 4000000
set_option linter.unusedVariables false
set_option linter.unusedSimpArgs false
namespace Go.Proofs.W
open Go Vm Go.Proofs.Zs06

theorem cntF_one {q : Nat → Bool} {t : Nat} : ∀ {k : Nat}, t < k → q t = false → cntF (fun i => if i = t then true else q i) k + 1 = cntF q k
  | 0, h, _ => by omega
  | k + 1, h, h2 => by
    simp only [cntF]
    by_cases e : t = k
    · subst e
      have : ∀ m, m ≤ t → cntF (fun i => if i = t then true else q i) m = cntF q m := by
        intro m hm
        induction m with
        | zero => rfl
        | succ m ih => simp only [cntF, ih (by omega), show (m = t) = False from eq_false (by omega), if_false]
      have h3 := this t (Nat.le_refl _)
      simp only [h3, h2, if_true, Bool.false_eq_true, if_false]
    · have := cntF_one (k := k) (by omega) h2
      simp only [show (k = t) = False from eq_false (fun h => e h.symm), if_false]
      omega
/-- what the walk holds: the machine, who is there, who is told -/
def goA : List D := [.ptr 2 0 0, .ptr 3 0 0, .ptr 0 0 0, .ptr 4 0 0]
structure DS (n : Nfa) (k : Nat) (q : Nat → Bool) (out : List Int) (d : D) (H : Heap) : Prop where
  h0 : hget H 0 = .arr [nfaD n]
  h1 : hget H 1 = .arr (tabD k q)
  h2 : hget H 2 = .arr [.vec 1 0 k]
  h3 : hget H 3 = .arr [d]
  hv : VecAt 5 d H (out.map (.int .i64))
  h4 : hget H 4 = .arr [.fn 44 goA]
structure OutOk (k : Nat) (q : Nat → Bool) (out : List Int) : Prop where
  nodup : out.Nodup
  mem : ∀ x : Int, x ∈ out ↔ ∃ i, i < k ∧ q i = true ∧ x = i
  len : out.length + cntF q k = k
structure Went (n : Nfa) (k : Nat) (q q' : Nat → Bool) (s : Nat) : Prop where
  keep : ∀ x, x < k → q x = true → q' x = true
  from' : ∀ x, x < k → q' x = true → q x = true ∨ Reach n (· = s) x
  new : ∀ x, x < k → q' x = true → q x = false → ∀ t : Nat, (t : Int) ∈ n.free.getD x [] → q' t = true
def GoPost (n : Nfa) (k : Nat) (s : Int) (q : Nat → Bool) (H' : Heap) : Prop := ∃ q' out' d', DS n k q' out' d' H' ∧ OutOk k q' out' ∧ ((s < 0 ∨ k ≤ s) ∧ q' = q ∨ (0 ≤ s ∧ s < k ∧ q' s.toNat = true ∧ Went n k q q' s.toNat))
theorem go_ok (n : Nfa) (hn : rightN n = true) (hfl : ∀ l ∈ n.free, l.length ≤ 1000000) : ∀ (m : Nat) (s : Int) (q : Nat → Bool) (out : List Int) (d : D) (H : Heap), cntF q n.set.length ≤ m → DS n n.set.length q out d H → OutOk n.set.length q out →
    EvF Try.prog A 44 (.int .i64 s :: goA) H (fun _ H' => GoPost n n.set.length s q H') (fun _ _ => False) := by
  obtain ⟨hk, hk2, hf, ht, hr, hrow⟩ := right_row hn
  have hfree := fun i hi x hx => right_free hn (i := i) hi (x := x) hx
  generalize hkk : n.set.length = k at *
  intro m
  induction m using Nat.strongRecOn with
  | _ m ih =>
    rintro s q out d H hm ⟨h0, h1, h2, h3, hv, h4⟩ hout
    have hL := lt_of_hget h4
    obtain ⟨w1, w2, w3⟩ := hv.one
    have hol : out.length ≤ k := by have := hout.len; omega
    simp only [goA] at *
    refine evF_inB (n := 43) (rs := []) Try.func44 rfl rfl rfl rfl rfl rfl ?_
    by_cases c1 : 0 ≤ s
    · by_cases c2 : s < k
      · obtain ⟨t, rfl⟩ : ∃ t : Nat, s = t := ⟨s.toNat, by omega⟩
        have htk : t < k := by omega
        cases hqt : q t with
        | true =>
          repeat' (first | refine wpB_seq ?_ | refine wpB_regionL rfl ?_ | refine wpB_block ?_ | refine wpB_skip ?_ | refine wpB_exit ?_ | refine wpB_ret ?_ | simp (maxSteps := 1000000) (dsimp := false) (disch := omega) only [go_sem, simprocAttr, *] | ((first | refine stepsB_both (fun hh => ?_) (fun hh => ?_) | refine stepsXB_both (fun hh => ?_) (fun hh => ?_)) <;> (try simp (maxSteps := 1000000) (dsimp := false) (disch := omega) only [go_sem, simprocAttr, decide_eq_true_eq, decide_eq_false_iff_not, Bool.not_eq_true, Bool.not_eq_false, Bool.not_eq_true', Bool.not_eq_false', Int.not_lt, Int.not_le, bne_iff_ne, bne_eq_false_iff_eq, beq_iff_eq, beq_eq_false_iff_ne, ne_eq, Int.ofNat_inj, Int.natCast_inj] at hh) <;> (try (exfalso; omega))) | (refine wpB_cond (by simp (maxSteps := 1000000) (dsimp := false) (disch := omega) only [go_sem, simprocAttr, *]; exact rfl) (fun hh => ?_) (fun hh => ?_) <;> (try simp (maxSteps := 1000000) (dsimp := false) (disch := omega) only [go_sem, simprocAttr, decide_eq_true_eq, decide_eq_false_iff_not, Bool.not_eq_true, Bool.not_eq_false, Bool.not_eq_true', Bool.not_eq_false', Int.not_lt, Int.not_le, bne_iff_ne, bne_eq_false_iff_eq, beq_iff_eq, beq_eq_false_iff_ne, ne_eq, Int.ofNat_inj, Int.natCast_inj] at hh) <;> (try (exfalso; omega))))
          exact ⟨q, out, d, ⟨h0, h1, h2, h3, hv, h4⟩, hout, .inr ⟨c1, c2, by simpa using hqt, ⟨fun _ _ h => h, fun _ _ h => .inl h, fun x hx h g => by rw [h] at g; cases g⟩⟩⟩
        | false =>
          obtain ⟨d', H', ha, hv', hsm⟩ := app_int (hv.setLow (k := 1) (o := Ob.arr (tabD k fun i => if i = t then true else q i)) (by omega)) (t : Int) (by omega)
          obtain ⟨v1, v2, v3⟩ := hv'.one
          simp only [List.length_set] at ha
          have hL' : 5 ≤ H'.length := hv'.1
          have hs0 := hsm.2 0 (by omega)
          have hs1 := hsm.2 1 (by omega)
          have hs2 := hsm.2 2 (by omega)
          have hs3 := hsm.2 3 (by omega)
          have hs4 := hsm.2 4 (by omega)
          rw [hget_set_ne (by omega)] at hs0 hs2 hs3 hs4
          rw [hget_set_eq (by omega)] at hs1
          obtain ⟨fr, hf1, hf2⟩ := ex_at (l := n.free) (i := t) [] (by omega)
          have hfx := hfree t htk
          rw [hf2] at hfx
          have hfrl := hfl fr (List.mem_of_getElem? hf1)
          repeat' (first | refine wpB_seq ?_ | refine wpB_regionL rfl ?_ | refine wpB_block ?_ | refine wpB_skip ?_ | refine wpB_exit ?_ | refine wpB_ret ?_ | simp (maxSteps := 1000000) (dsimp := false) (disch := omega) only [go_sem, simprocAttr, *, nfaD, issD, isD] | ((first | refine stepsB_both (fun hh => ?_) (fun hh => ?_) | refine stepsXB_both (fun hh => ?_) (fun hh => ?_)) <;> (try simp (maxSteps := 1000000) (dsimp := false) (disch := omega) only [go_sem, simprocAttr, decide_eq_true_eq, decide_eq_false_iff_not, Bool.not_eq_true, Bool.not_eq_false, Bool.not_eq_true', Bool.not_eq_false', Int.not_lt, Int.not_le, bne_iff_ne, bne_eq_false_iff_eq, beq_iff_eq, beq_eq_false_iff_ne, ne_eq, Int.ofNat_inj, Int.natCast_inj] at hh) <;> (try (exfalso; omega))) | (refine wpB_cond (by simp (maxSteps := 1000000) (dsimp := false) (disch := omega) only [go_sem, simprocAttr, *, nfaD, issD, isD]; exact rfl) (fun hh => ?_) (fun hh => ?_) <;> (try simp (maxSteps := 1000000) (dsimp := false) (disch := omega) only [go_sem, simprocAttr, decide_eq_true_eq, decide_eq_false_iff_not, Bool.not_eq_true, Bool.not_eq_false, Bool.not_eq_true', Bool.not_eq_false', Int.not_lt, Int.not_le, bne_iff_ne, bne_eq_false_iff_eq, beq_iff_eq, beq_eq_false_iff_ne, ne_eq, Int.ofNat_inj, Int.natCast_inj] at hh) <;> (try (exfalso; omega))))
          have ho1 : OutOk k (fun i => if i = t then true else q i) (out ++ [(t : Int)]) := by
            refine ⟨?_, fun x => ?_, ?_⟩
            · rw [List.nodup_append]
              refine ⟨hout.nodup, by simp, fun x hx y hy e => ?_⟩
              obtain ⟨i, i1, i2, i3⟩ := (hout.mem x).1 hx
              have : i = t := by simp at hy; omega
              subst this; rw [hqt] at i2; cases i2
            · rw [List.mem_append, hout.mem]
              constructor
              · rintro (⟨i, i1, i2, i3⟩ | hx)
                · refine ⟨i, i1, ?_, i3⟩
                  show (if i = t then true else q i) = true
                  rw [i2]; simp
                · exact ⟨t, htk, by simp, by simpa using hx⟩
              · rintro ⟨i, i1, i2, i3⟩
                by_cases e : i = t
                · subst e; exact .inr (by simp [i3])
                · simp only [e, if_false] at i2
                  exact .inl ⟨i, i1, i2, i3⟩
            · have := cntF_one htk hqt
              have h9 := hout.len
              simp only [List.length_append, List.length_cons, List.length_nil]
              omega
          refine wpB_loop (fun e H => ∃ (j : Nat) (qj : Nat → Bool) (outj : List Int) (dj : D), j ≤ fr.length ∧ DS n k qj outj dj H ∧ OutOk k qj outj ∧ e 4 = .ptr 4 0 0 ∧ e 33 = isD fr ∧ e 34 = .int .i64 fr.length ∧ e 35 = .int .i64 j ∧ (∀ x, x < k → (if x = t then true else q x) = true → qj x = true)
            ∧ (∀ x, x < k → qj x = true → (if x = t then true else q x) = true ∨ Reach n (· = t) x) ∧ (∀ x, x < k → qj x = true → (if x = t then true else q x) = false → ∀ y : Nat, (y : Int) ∈ n.free.getD x [] → qj y = true) ∧ ∀ y : Nat, (y : Int) ∈ fr.take j → qj y = true) (fun e H => fr.length - natOf (e 35)) ?_ ?_
          · refine ⟨0, _, out ++ [(t : Int)], d', by omega, ⟨by rw [hget_set_ne (by omega)]; rw [hs0, h0], by rw [hget_set_ne (by omega)]; exact hs1, by rw [hget_set_ne (by omega)]; rw [hs2, h2], by rw [hget_set_eq (by omega)], hv'.setLow (by omega), by rw [hget_set_ne (by omega)]; rw [hs4, h4]; rfl⟩, ho1, by simp (maxSteps := 1000000) (dsimp := false) (disch := omega) only [go_sem, simprocAttr, *], by simp (maxSteps := 1000000) (dsimp := false) (disch := omega) only [go_sem, simprocAttr, *, isD], by simp (maxSteps := 1000000) (dsimp := false) (disch := omega) only [go_sem, simprocAttr, *], by simp (maxSteps := 1000000) (dsimp := false) (disch := omega) only [go_sem, simprocAttr, *], fun _ _ h => h, fun _ _ h => .inl h, fun x _ h g => ?_, fun y hy => by simp at hy⟩
            have h' : (if x = t then true else q x) = true := h
            rw [h'] at g; cases g
          clear hs0 hs1 hs2 hs3 hs4 ha hv' hsm v1 v2 v3 h0 h1 h2 h3 h4 hv w1 w2 w3 ho1
          rintro e Hj ⟨j, qj, outj, dj, hj, hds, hoj, e4, e33, e34, e35, g1, g2, g3, g4⟩ R hR
          have h4 := hds.h4
          simp only [goA] at h4
          by_cases hb : j < fr.length
          · have hfj := hfx fr[j] (List.getElem_mem hb)
            obtain ⟨y, hy⟩ : ∃ y : Nat, fr[j] = (y : Int) := ⟨fr[j].toNat, by omega⟩
            have hcnt : cntF qj k < m := by
              have h5 := cntF_one htk hqt
              have h6 := cntF_le (k := k) g1
              omega
            have hcall := ih _ hcnt (y : Int) qj outj dj Hj (Nat.le_refl _) hds hoj
            repeat' (first | refine wpB_seq ?_ | refine wpB_regionL rfl ?_ | refine wpB_block ?_ | refine wpB_skip ?_ | refine wpB_exit ?_ | refine wpB_ret ?_ | simp (maxSteps := 1000000) (dsimp := false) (disch := omega) only [go_sem, simprocAttr, *, isD] | ((first | refine stepsB_both (fun hh => ?_) (fun hh => ?_) | refine stepsXB_both (fun hh => ?_) (fun hh => ?_)) <;> (try simp (maxSteps := 1000000) (dsimp := false) (disch := omega) only [go_sem, simprocAttr, decide_eq_true_eq, decide_eq_false_iff_not, Bool.not_eq_true, Bool.not_eq_false, Bool.not_eq_true', Bool.not_eq_false', Int.not_lt, Int.not_le, bne_iff_ne, bne_eq_false_iff_eq, beq_iff_eq, beq_eq_false_iff_ne, ne_eq, Int.ofNat_inj, Int.natCast_inj] at hh) <;> (try (exfalso; omega))) | (refine wpB_cond (by simp (maxSteps := 1000000) (dsimp := false) (disch := omega) only [go_sem, simprocAttr, *, isD]; exact rfl) (fun hh => ?_) (fun hh => ?_) <;> (try simp (maxSteps := 1000000) (dsimp := false) (disch := omega) only [go_sem, simprocAttr, decide_eq_true_eq, decide_eq_false_iff_not, Bool.not_eq_true, Bool.not_eq_false, Bool.not_eq_true', Bool.not_eq_false', Int.not_lt, Int.not_le, bne_iff_ne, bne_eq_false_iff_eq, beq_iff_eq, beq_eq_false_iff_ne, ne_eq, Int.ofNat_inj, Int.natCast_inj] at hh) <;> (try (exfalso; omega))))
            refine evB_state bo44 rfl rfl hcall ?_ (fun _ _ h => h.elim)
            rintro _ H2 ⟨q2, out2, d2, hd2, ho2, hw⟩
            repeat' (first | refine wpB_seq ?_ | refine wpB_regionL rfl ?_ | refine wpB_block ?_ | refine wpB_skip ?_ | refine wpB_exit ?_ | refine wpB_ret ?_ | simp (maxSteps := 1000000) (dsimp := false) (disch := omega) only [go_sem, simprocAttr, *] | ((first | refine stepsB_both (fun hh => ?_) (fun hh => ?_) | refine stepsXB_both (fun hh => ?_) (fun hh => ?_)) <;> (try simp (maxSteps := 1000000) (dsimp := false) (disch := omega) only [go_sem, simprocAttr, decide_eq_true_eq, decide_eq_false_iff_not, Bool.not_eq_true, Bool.not_eq_false, Bool.not_eq_true', Bool.not_eq_false', Int.not_lt, Int.not_le, bne_iff_ne, bne_eq_false_iff_eq, beq_iff_eq, beq_eq_false_iff_ne, ne_eq, Int.ofNat_inj, Int.natCast_inj] at hh) <;> (try (exfalso; omega))) | (refine wpB_cond (by simp (maxSteps := 1000000) (dsimp := false) (disch := omega) only [go_sem, simprocAttr, *]; exact rfl) (fun hh => ?_) (fun hh => ?_) <;> (try simp (maxSteps := 1000000) (dsimp := false) (disch := omega) only [go_sem, simprocAttr, decide_eq_true_eq, decide_eq_false_iff_not, Bool.not_eq_true, Bool.not_eq_false, Bool.not_eq_true', Bool.not_eq_false', Int.not_lt, Int.not_le, bne_iff_ne, bne_eq_false_iff_eq, beq_iff_eq, beq_eq_false_iff_ne, ne_eq, Int.ofNat_inj, Int.natCast_inj] at hh) <;> (try (exfalso; omega))))
            rcases hw with ⟨h7, -⟩ | ⟨h7, h8, h9, hw⟩
            · omega
            · rw [Int.toNat_natCast] at h9 hw
              have hyk : y < k := by omega
              have hyf : (y : Int) ∈ n.free.getD t [] := by rw [hf2, ← hy]; exact List.getElem_mem hb
              have hfrom : ∀ x, Reach n (· = y) x → Reach n (· = t) x := by
                intro x hx
                induction hx with
                | base h => subst h; exact .step (.base rfl) hyf
                | step _ h ih => exact .step ih h
              refine hR _ _ ⟨j + 1, q2, out2, d2, by omega, hd2, ho2, by simp (maxSteps := 1000000) (dsimp := false) (disch := omega) only [go_sem, simprocAttr, *], by simp (maxSteps := 1000000) (dsimp := false) (disch := omega) only [go_sem, simprocAttr, *, isD], by simp (maxSteps := 1000000) (dsimp := false) (disch := omega) only [go_sem, simprocAttr, *], by simp (maxSteps := 1000000) (dsimp := false) (disch := omega) only [go_sem, simprocAttr, *], fun x hx h => hw.keep x hx (g1 x hx h), fun x hx h => ?_, fun x hx h g z hz => ?_, fun z hz => ?_⟩ ?_
              · rcases hw.from' x hx h with h | h
                · exact g2 x hx h
                · exact .inr (hfrom x h)
              · cases hq : qj x with
                | true =>
                  have hzk := hfree x hx z hz
                  exact hw.keep z (by omega) (g3 x hx hq g z hz)
                | false => exact hw.new x hx h hq z hz
              · rw [take_succ' hb, List.mem_append] at hz
                rcases hz with hz | hz
                · have hzk := hfx z (List.mem_of_mem_take hz)
                  exact hw.keep z (by omega) (g4 z hz)
                · have : z = y := by simp [hy] at hz; omega
                  subst this; exact h9
              · simp (maxSteps := 1000000) (dsimp := false) (disch := omega) only [go_sem, simprocAttr, *, natOf_int]
          · repeat' (first | refine wpB_seq ?_ | refine wpB_regionL rfl ?_ | refine wpB_block ?_ | refine wpB_skip ?_ | refine wpB_exit ?_ | refine wpB_ret ?_ | simp (maxSteps := 1000000) (dsimp := false) (disch := omega) only [go_sem, simprocAttr, *] | ((first | refine stepsB_both (fun hh => ?_) (fun hh => ?_) | refine stepsXB_both (fun hh => ?_) (fun hh => ?_)) <;> (try simp (maxSteps := 1000000) (dsimp := false) (disch := omega) only [go_sem, simprocAttr, decide_eq_true_eq, decide_eq_false_iff_not, Bool.not_eq_true, Bool.not_eq_false, Bool.not_eq_true', Bool.not_eq_false', Int.not_lt, Int.not_le, bne_iff_ne, bne_eq_false_iff_eq, beq_iff_eq, beq_eq_false_iff_ne, ne_eq, Int.ofNat_inj, Int.natCast_inj] at hh) <;> (try (exfalso; omega))) | (refine wpB_cond (by simp (maxSteps := 1000000) (dsimp := false) (disch := omega) only [go_sem, simprocAttr, *]; exact rfl) (fun hh => ?_) (fun hh => ?_) <;> (try simp (maxSteps := 1000000) (dsimp := false) (disch := omega) only [go_sem, simprocAttr, decide_eq_true_eq, decide_eq_false_iff_not, Bool.not_eq_true, Bool.not_eq_false, Bool.not_eq_true', Bool.not_eq_false', Int.not_lt, Int.not_le, bne_iff_ne, bne_eq_false_iff_eq, beq_iff_eq, beq_eq_false_iff_ne, ne_eq, Int.ofNat_inj, Int.natCast_inj] at hh) <;> (try (exfalso; omega))))
            refine ⟨qj, outj, dj, hds, hoj, .inr ⟨c1, c2, by simpa using g1 t htk (by simp), ⟨fun x hx h => g1 x hx (by rw [h]; simp), fun x hx h => ?_, fun x hx h g z hz => ?_⟩⟩⟩
            · rcases g2 x hx h with h | h
              · by_cases e : x = t
                · subst e; exact .inr (.base (by simp))
                · rw [if_neg e] at h; exact .inl h
              · exact .inr (by simpa using h)
            · by_cases e : x = t
              · subst e
                rw [hf2] at hz
                exact g4 z (by rw [List.take_of_length_le (by omega)]; exact hz)
              · exact g3 x hx h (by rw [if_neg e]; exact g) z hz
      · repeat' (first | refine wpB_seq ?_ | refine wpB_regionL rfl ?_ | refine wpB_block ?_ | refine wpB_skip ?_ | refine wpB_exit ?_ | refine wpB_ret ?_ | simp (maxSteps := 1000000) (dsimp := false) (disch := omega) only [go_sem, simprocAttr, *] | ((first | refine stepsB_both (fun hh => ?_) (fun hh => ?_) | refine stepsXB_both (fun hh => ?_) (fun hh => ?_)) <;> (try simp (maxSteps := 1000000) (dsimp := false) (disch := omega) only [go_sem, simprocAttr, decide_eq_true_eq, decide_eq_false_iff_not, Bool.not_eq_true, Bool.not_eq_false, Bool.not_eq_true', Bool.not_eq_false', Int.not_lt, Int.not_le, bne_iff_ne, bne_eq_false_iff_eq, beq_iff_eq, beq_eq_false_iff_ne, ne_eq, Int.ofNat_inj, Int.natCast_inj] at hh) <;> (try (exfalso; omega))) | (refine wpB_cond (by simp (maxSteps := 1000000) (dsimp := false) (disch := omega) only [go_sem, simprocAttr, *]; exact rfl) (fun hh => ?_) (fun hh => ?_) <;> (try simp (maxSteps := 1000000) (dsimp := false) (disch := omega) only [go_sem, simprocAttr, decide_eq_true_eq, decide_eq_false_iff_not, Bool.not_eq_true, Bool.not_eq_false, Bool.not_eq_true', Bool.not_eq_false', Int.not_lt, Int.not_le, bne_iff_ne, bne_eq_false_iff_eq, beq_iff_eq, beq_eq_false_iff_ne, ne_eq, Int.ofNat_inj, Int.natCast_inj] at hh) <;> (try (exfalso; omega))))
        exact ⟨q, out, d, ⟨h0, h1, h2, h3, hv, h4⟩, hout, .inl ⟨.inr (by omega), rfl⟩⟩
    · repeat' (first | refine wpB_seq ?_ | refine wpB_regionL rfl ?_ | refine wpB_block ?_ | refine wpB_skip ?_ | refine wpB_exit ?_ | refine wpB_ret ?_ | simp (maxSteps := 1000000) (dsimp := false) (disch := omega) only [go_sem, simprocAttr, *] | ((first | refine stepsB_both (fun hh => ?_) (fun hh => ?_) | refine stepsXB_both (fun hh => ?_) (fun hh => ?_)) <;> (try simp (maxSteps := 1000000) (dsimp := false) (disch := omega) only [go_sem, simprocAttr, decide_eq_true_eq, decide_eq_false_iff_not, Bool.not_eq_true, Bool.not_eq_false, Bool.not_eq_true', Bool.not_eq_false', Int.not_lt, Int.not_le, bne_iff_ne, bne_eq_false_iff_eq, beq_iff_eq, beq_eq_false_iff_ne, ne_eq, Int.ofNat_inj, Int.natCast_inj] at hh) <;> (try (exfalso; omega))) | (refine wpB_cond (by simp (maxSteps := 1000000) (dsimp := false) (disch := omega) only [go_sem, simprocAttr, *]; exact rfl) (fun hh => ?_) (fun hh => ?_) <;> (try simp (maxSteps := 1000000) (dsimp := false) (disch := omega) only [go_sem, simprocAttr, decide_eq_true_eq, decide_eq_false_iff_not, Bool.not_eq_true, Bool.not_eq_false, Bool.not_eq_true', Bool.not_eq_false', Int.not_lt, Int.not_le, bne_iff_ne, bne_eq_false_iff_eq, beq_iff_eq, beq_eq_false_iff_ne, ne_eq, Int.ofNat_inj, Int.natCast_inj] at hh) <;> (try (exfalso; omega))))
      exact ⟨q, out, d, ⟨h0, h1, h2, h3, hv, h4⟩, hout, .inl ⟨.inl (by omega), rfl⟩⟩
end Go.Proofs.W
end
/- Sorted and compacted lists of numbers. -/
section
set_option maxHeartbeats 4000000
set_option linter.unusedVariables false
set_option linter.unusedSimpArgs false
namespace Go.Proofs.W
open Go Vm Go.Proofs.Zs06

theorem strict_unique : ∀ {l l' : List Int}, l.Pairwise (· < ·) → l'.Pairwise (· < ·) → (∀ x, x ∈ l ↔ x ∈ l') → l = l'
  | [], [], _, _, _ => rfl
  | [], y :: t', _, _, h => by have := (h y).2 (by simp); cases this
  | x :: t, [], _, _, h => by have := (h x).1 (by simp); cases this
  | x :: t, y :: t', h1, h2, h => by
    have a1 := List.pairwise_cons.1 h1
    have a2 := List.pairwise_cons.1 h2
    have hx := (h x).1 (by simp)
    have hy := (h y).2 (by simp)
    have e : x = y := by
      rcases List.mem_cons.1 hx with e | hx
      · exact e
      · rcases List.mem_cons.1 hy with e | hy
        · exact e.symm
        · have := a1.1 y hy
          have := a2.1 x hx
          omega
    subst e
    refine congrArg (x :: ·) (strict_unique a1.2 a2.2 fun z => ⟨fun hz => ?_, fun hz => ?_⟩)
    · rcases List.mem_cons.1 ((h z).1 (List.mem_cons_of_mem _ hz)) with rfl | hz'
      · have := a1.1 _ hz; omega
      · exact hz'
    · rcases List.mem_cons.1 ((h z).2 (List.mem_cons_of_mem _ hz)) with rfl | hz'
      · have := a2.1 _ hz; omega
      · exact hz'
theorem listZ_strict (k : Nat) (p : Nat → Bool) : (listZ k p).Pairwise (· < ·) := by
  induction k with
  | zero => simp [listZ]
  | succ k ih =>
    rw [listZ_succ]
    cases hp : p k with
    | false => simpa using ih
    | true =>
      simp only [if_true, List.pairwise_append]
      refine ⟨ih, by simp, fun x hx y hy => ?_⟩
      obtain ⟨i, h1, h2, h3⟩ := mem_listZ.1 hx
      simp at hy; omega
theorem le_of_lt_pw {l : List Int} (h : l.Pairwise (· < ·)) : l.Pairwise (· ≤ ·) := h.imp fun h => Int.le_of_lt h
theorem strict_of {l : List Int} (h : l.Pairwise (· ≤ ·)) (hn : l.Nodup) : l.Pairwise (· < ·) := by
  have := List.pairwise_and_iff.2 ⟨h, hn⟩
  exact this.imp fun h => by have := h.1; have := h.2; omega
theorem sort_listZ {k : Nat} {q : Nat → Bool} {out : List Int} (h : OutOk k q out) : sortZ out = listZ k q := by
  refine strict_unique (strict_of (sortZ_sorted out) ((sortZ_perm out).nodup_iff.2 h.nodup)) (listZ_strict k q) fun x => ?_
  rw [(sortZ_perm out).mem_iff, h.mem, mem_listZ]
theorem compact_spec (d : Array Int) (hd : ∀ i j, i ≤ j → j < d.size → d[i]! ≤ d[j]!) : ∀ m, m ≤ d.size → (Lib.compactUpTo d m).Pairwise (· < ·) ∧ ∀ x, x ∈ Lib.compactUpTo d m ↔ ∃ j, j < m ∧ d[j]! = x
  | 0, _ => by simp [Lib.compactUpTo]
  | m + 1, hm => by
    obtain ⟨h1, h2⟩ := compact_spec d hd m (by omega)
    rw [Lib.compactUpTo_succ]
    cases hk : Lib.keeps d m with
    | true =>
      simp only [if_true]
      have hlt : ∀ j, j < m → d[j]! < d[m]! := by
        intro j hj
        simp only [Lib.keeps, decide_eq_true_eq] at hk
        have := hd j (m - 1) (by omega) (by omega)
        have := hd (m - 1) m (by omega) (by omega)
        rcases hk with hk | hk
        · omega
        · omega
      refine ⟨List.pairwise_append.2 ⟨h1, by simp, fun x hx y hy => ?_⟩, fun x => ?_⟩
      · obtain ⟨j, j1, j2⟩ := (h2 x).1 hx
        have := hlt j j1
        simp at hy; omega
      · rw [List.mem_append, h2]
        constructor
        · rintro (⟨j, j1, j2⟩ | hx)
          · exact ⟨j, by omega, j2⟩
          · exact ⟨m, by omega, by simpa using Eq.symm (by simpa using hx)⟩
        · rintro ⟨j, j1, j2⟩
          by_cases e : j = m
          · subst e; exact .inr (by simp [← j2])
          · exact .inl ⟨j, by omega, j2⟩
    | false =>
      simp only [Bool.false_eq_true, if_false, List.append_nil]
      refine ⟨h1, fun x => ?_⟩
      rw [h2]
      simp only [Lib.keeps, decide_eq_false_iff_not, not_or, Decidable.not_not] at hk
      constructor
      · rintro ⟨j, j1, j2⟩; exact ⟨j, by omega, j2⟩
      · rintro ⟨j, j1, j2⟩
        by_cases e : j = m
        · subst e; exact ⟨j - 1, by omega, by rw [← hk.2]; exact j2⟩
        · exact ⟨j, by omega, j2⟩
theorem pw_get {l : List Int} (h : l.Pairwise (· ≤ ·)) (i j : Nat) (hij : i ≤ j) (hj : j < l.toArray.size) : l.toArray[i]! ≤ l.toArray[j]! := by
  simp at hj
  rw [getElem!_pos l.toArray i (by simp; omega), getElem!_pos l.toArray j (by simpa using hj)]
  simp
  by_cases e : i = j
  · subst e; exact Int.le_refl _
  · exact List.pairwise_iff_getElem.1 h i j (by omega) hj (by omega)
theorem compact_sorted (zs : List Int) : (Lib.compact (sortZ zs)).Pairwise (· < ·) ∧ ∀ x, x ∈ Lib.compact (sortZ zs) ↔ x ∈ zs := by
  have hs := sortZ_sorted zs
  obtain ⟨h1, h2⟩ := compact_spec (sortZ zs).toArray (pw_get hs) (sortZ zs).length (by simp)
  refine ⟨h1, fun x => ?_⟩
  rw [← (sortZ_perm zs).mem_iff]
  show x ∈ Lib.compactUpTo _ _ ↔ _
  rw [h2, List.mem_iff_getElem]
  constructor
  · rintro ⟨j, j1, j2⟩
    exact ⟨j, j1, by rw [← j2, getElem!_pos (sortZ zs).toArray j (by simpa using j1)]; simp⟩
  · rintro ⟨j, j1, j2⟩
    exact ⟨j, j1, by rw [← j2, getElem!_pos (sortZ zs).toArray j (by simpa using j1)]; simp⟩
theorem compact_len (zs : List Int) : (Lib.compact zs).length ≤ zs.length := by
  unfold Lib.compact Lib.compactUpTo
  have := List.length_filter_le (Lib.keeps zs.toArray) (List.range zs.length)
  simpa using this
theorem sortZ_len (zs : List Int) : (sortZ zs).length = zs.length := (sortZ_perm zs).length_eq
theorem sort_vec {m : Nat} {d : D} {H : Heap} {zs : List Int} (h : VecAt m d H (zs.map (.int .i64))) (hl : zs.length ≤ 1000000) : ∃ H', pSort [d] H = some (.ok (.tup []) H') ∧ VecAt m d H' ((sortZ zs).map (.int .i64)) ∧ Same m H H' := by
  obtain ⟨h0, h | ⟨h1, r, h2, h3, h4, h5⟩⟩ := h
  · obtain ⟨h1, rfl⟩ := h
    obtain rfl : zs = [] := by simpa using h1
    exact ⟨H, rfl, ⟨h0, .inl ⟨rfl, rfl⟩⟩, Same.refl⟩
  · have hz : zs ≠ [] := by simpa using h1
    subst h4
    refine ⟨H.set r (.arr ((sortZ zs).map (.int .i64))), ?_, ⟨by simpa using h0, .inr ⟨?_, r, h2, by simpa using h3, ?_, hget_set_eq h3⟩⟩, Same.set h2⟩
    · simp only [pSort, h5, intsD_map, Option.bind_some]
      rw [if_pos ⟨by simp, by omega, by cases zs with | nil => exact absurd rfl hz | cons a b => simp⟩]
    · have := sortZ_len zs
      intro e
      have e2 : sortZ zs = [] := by simpa using e
      rw [e2] at this
      cases zs with
      | nil => exact hz rfl
      | cons a b => simp at this
    · simp [sortZ_len]
theorem compact_vec {m : Nat} {d : D} {H : Heap} {zs : List Int} (h : VecAt m d H (zs.map (.int .i64))) (hl : zs.length ≤ 1000000) : ∃ d' H', pCompact [d] H = some (.ok d' H') ∧ outPure H' d' = some (isD (Lib.compact zs)) ∧ Same m H H' := by
  obtain ⟨h0, h | ⟨h1, r, h2, h3, h4, h5⟩⟩ := h
  · obtain ⟨h1, rfl⟩ := h
    obtain rfl : zs = [] := by simpa using h1
    exact ⟨_, H, rfl, rfl, Same.refl⟩
  · have hz : zs ≠ [] := by simpa using h1
    subst h4
    refine ⟨.vec r 0 (Lib.compact zs).length, H.set r (.arr ((compactZ zs).map (.int .i64))), ?_, ?_, Same.set h2⟩
    · simp only [pCompact, h5, intsD_map, Option.bind_some]
      rw [if_pos ⟨by simp, by omega, by cases zs with | nil => exact absurd rfl hz | cons a b => simp, compact_len zs⟩]
    · unfold outPure deepest
      rw [pur_vec, hget_set_eq h3]
      have hcl : (compactZ zs).length = zs.length := by have := compact_len zs; simp [compactZ]; omega
      have htk : (((compactZ zs).map (D.int .i64)).drop 0).take (Lib.compact zs).length = (Lib.compact zs).map (.int .i64) := by
        rw [List.drop_zero, ← List.map_take]
        congr 1
        simp [compactZ]
      have hle := compact_len zs
      simp only [Nat.zero_add, List.length_map, hcl, if_pos hle, htk]
      rw [purL_strip (strip_ints _)]
      rfl
end Go.Proofs.W
end
/-
  DERIVED: THE SHELF's CONTRACTS AT THIS DUMP, IN PLAIN WORDS (tools/lay-plain.mjs out of 'TryShelf.lean', which tools/lay-shelf.mjs wrote): THE SAME DECLARATIONS UNDER THE SAME NAMES: 'import', 'namespace', 'open', 'def', 'theorem' AND NOTHING ELSE: no command of the shelf's: FOR A HAND-IN. Each laying: the table of numbers ('.._ren') and one theorem, a field a fact of the dump's own or the kernel's comparison; each contract: ONE APPLICATION.
-/
section
namespace Go.Proofs
open Go.Shelf
def Try.lays189_ren : Go.Shelf.Ren := ⟨fun | 189 => 42 | 125 => 47 | 257 => 46 | 128 => 57 | 129 => 58 | 294 => 48 | 295 => 49 | 296 => 50 | 297 => 51 | 298 => 52 | 299 => 53 | 216 => 54 | 300 => 55 | 301 => 56 | 328 => 59 | 329 => 60 | 330 => 61 | 331 => 62 | 332 => 63 | 215 => 64 | 343 => 65 | n => n, fun | 28 => 27 | 3 => 3 | 46 => 67 | 0 => 0 | 51 => 89 | 53 => 91 | 4 => 4 | 183 => 81 | 182 => 80 | 131 => 86 | 5 => 5 | 9 => 9 | 218 => 92 | 222 => 70 | 228 => 97 | 229 => 59 | n => n, fun | n => n⟩
theorem Try.lays189 : Go.Proofs.Lays.n189 Try.prog Try.lays189_ren := {
  mixed := by kernel_rfl
  f125 := Try.func47.trans (congrArg some (by kernel_rfl))
  f128 := Try.func57.trans (congrArg some (by kernel_rfl))
  f129 := Try.func58.trans (congrArg some (by kernel_rfl))
  f189 := Try.func42.trans (congrArg some (by kernel_rfl))
  f215 := Try.func64.trans (congrArg some (by kernel_rfl))
  f216 := Try.func54.trans (congrArg some (by kernel_rfl))
  f257 := Try.func46.trans (congrArg some (by kernel_rfl))
  f294 := Try.func48.trans (congrArg some (by kernel_rfl))
  f295 := Try.func49.trans (congrArg some (by kernel_rfl))
  f296 := Try.func50.trans (congrArg some (by kernel_rfl))
  f297 := Try.func51.trans (congrArg some (by kernel_rfl))
  f298 := Try.func52.trans (congrArg some (by kernel_rfl))
  f299 := Try.func53.trans (congrArg some (by kernel_rfl))
  f300 := Try.func55.trans (congrArg some (by kernel_rfl))
  f301 := Try.func56.trans (congrArg some (by kernel_rfl))
  f328 := Try.func59.trans (congrArg some (by kernel_rfl))
  f329 := Try.func60.trans (congrArg some (by kernel_rfl))
  f330 := Try.func61.trans (congrArg some (by kernel_rfl))
  f331 := Try.func62.trans (congrArg some (by kernel_rfl))
  f332 := Try.func63.trans (congrArg some (by kernel_rfl))
  f343 := Try.func65.trans (congrArg some (by kernel_rfl))
  t0 := Try.underlying0
  a0 := Try.isAgg0
  z0 := Try.sizeOf0
  v0 := Try.zeroValue0
  t3 := Try.underlying3
  a3 := Try.isAgg3
  z3 := Try.sizeOf3
  v3 := Try.zeroValue3
  t4 := Try.underlying4
  a4 := Try.isAgg4
  z4 := Try.sizeOf4
  v4 := Try.zeroValue4
  t5 := Try.underlying5
  a5 := Try.isAgg5
  z5 := Try.sizeOf5
  v5 := Try.zeroValue5
  t9 := Try.underlying9
  a9 := Try.isAgg9
  z9 := Try.sizeOf9
  v9 := Try.zeroValue9
  t28 := Try.underlying27
  a28 := Try.isAgg27
  z28 := Try.sizeOf27
  v28 := Try.zeroValue27
  t46 := Try.underlying67
  a46 := Try.isAgg67
  z46 := Try.sizeOf67
  v46 := Try.zeroValue67
  t51 := Try.underlying89
  a51 := Try.isAgg89
  z51 := Try.sizeOf89
  v51 := Try.zeroValue89
  t53 := Try.underlying91
  a53 := Try.isAgg91
  z53 := Try.sizeOf91
  v53 := Try.zeroValue91
  t131 := Try.underlying86
  a131 := Try.isAgg86
  z131 := Try.sizeOf86
  v131 := Try.zeroValue86
  t182 := Try.underlying80
  a182 := Try.isAgg80
  z182 := Try.sizeOf80
  v182 := Try.zeroValue80
  t183 := Try.underlying81
  a183 := Try.isAgg81
  z183 := Try.sizeOf81
  v183 := Try.zeroValue81
  t218 := Try.underlying92
  a218 := Try.isAgg92
  z218 := Try.sizeOf92
  v218 := Try.zeroValue92
  t222 := Try.underlying70
  a222 := Try.isAgg70
  z222 := Try.sizeOf70
  v222 := Try.zeroValue70
  t228 := Try.underlying97
  a228 := Try.isAgg97
  z228 := Try.sizeOf97
  v228 := Try.zeroValue97
  t229 := Try.underlying59
  a229 := Try.isAgg59
  z229 := Try.sizeOf59
  v229 := Try.zeroValue59 }
open Go.Sort Go.RowKit in
theorem Try.slices_Sort_int (blk off cap : Nat) (zs : List Int) (w : World) (hH : Holds (Value.int .i64) w blk off zs.toArray) (hblk : blk < w.heap.size) (hsz : zs.length < 4611686018427387904) :
    Calls Try.prog 42 #[.slice (some ⟨blk, off, none⟩) zs.length cap] w fun e w' =>
      e = .returned (.tuple #[]) ∧ ∃ n os, w' = grow (putRow (Value.int .i64) (Sort.ahead w n) blk off (zs.mergeSort fun x y => decide (x ≤ y)).toArray) os := Any.slices_Sort_int Try.lays189 blk off cap zs w hH hblk hsz
open Go.RowKit Go.Sort in
/-- .. and plain. (LAID: no walk: one application.) -/
theorem Try.slices_Sort_int_none (p : Option Addr) (cap : Nat) (w : World) :
    Calls Try.prog 42 #[.slice p 0 cap] w fun e w' => e = .returned (.tuple #[]) ∧ w' = w := Any.slices_Sort_int_none Try.lays189 p cap w
def Try.laysNm220_ren : Go.Shelf.Ren := ⟨fun | 20 => 43 | n => n, fun | 22 => 27 | 3 => 3 | 4 => 4 | 0 => 0 | n => n, fun | n => n⟩
theorem Try.laysNm220 : Go.Proofs.Lays2.n20 Try.prog Try.laysNm220_ren := {
  mixed := by kernel_rfl
  f20 := Try.func43.trans (congrArg some (by kernel_rfl))
  t0 := Try.underlying0
  a0 := Try.isAgg0
  z0 := Try.sizeOf0
  v0 := Try.zeroValue0
  t3 := Try.underlying3
  a3 := Try.isAgg3
  z3 := Try.sizeOf3
  v3 := Try.zeroValue3
  t4 := Try.underlying4
  a4 := Try.isAgg4
  z4 := Try.sizeOf4
  v4 := Try.zeroValue4
  t22 := Try.underlying27
  a22 := Try.isAgg27
  z22 := Try.sizeOf27
  v22 := Try.zeroValue27
  i3 := by kernel_rfl }
open Go.RowKit Go.Lib Go.Sort in
/-- slices.Compact at []int: "Compact replaces consecutive runs of equal elements with a single copy. This is like the uniq command found on Unix. Compact modifies the contents of the slice s and returns the modified slice, which may have a smaller length. Compact zeroes the elements between the new length and the original length. The result preserves the nilness of s.": IT RETURNS THE SLICE CUT TO 'Lib.compact zs'; ITS CELLS HOLD 'Lib.compact zs', THEN ZERO VALUES up to the old length; all else is as it was, but for the count of draws. IN THE WORDS OF slices.Sort's CONTRACT ('Holds', 'putRow'): so the everyday 'slices.Sort(xs); xs = slices.Compact(xs)' goes from the one contract to the other. It asks 'zs.length ≤ cap' (every slice's: the reslicing 's[:k]' looks at it). Length 0, nil: '.._empty'. (LAID: no walk: one application.) -/
theorem Try.slices_Compact_int (blk off cap : Nat) (zs : List Int) (w : World) (hH : Holds (Value.int .i64) w blk off zs.toArray) (hsz : zs.length ≤ 9223372036854775807) (hcap : zs.length ≤ cap) :
    Calls Try.prog 43 #[.slice (some ⟨blk, off, none⟩) zs.length cap] w fun e w' => e = .returned (.slice (some ⟨blk, off, none⟩) (Lib.compact zs).length cap) ∧ ∃ q, w' = putRow (Value.int .i64) (Sort.ahead w q) blk off (Lib.compact zs ++ List.replicate (zs.length - (Lib.compact zs).length) 0).toArray := Any.slices_Compact_int Try.laysNm220 blk off cap zs w hH hsz hcap
open Go.RowKit Go.Lib Go.Sort in
/-- The same at a slice of length 0, a nil one too: it comes back as it is. (LAID: no walk: one application.) -/
theorem Try.slices_Compact_int_empty (a : Option Addr) (cap : Nat) (w : World) :
    Calls Try.prog 43 #[.slice a 0 cap] w fun e w' => e = .returned (.slice a 0 cap) ∧ w' = w := Any.slices_Compact_int_empty Try.laysNm220 a cap w
end Go.Proofs
end
/- The chapter on machines with free steps: the functions that are taken as they are. -/
section
set_option maxHeartbeats 4000000
set_option linter.unusedVariables false
set_option linter.unusedSimpArgs false
namespace Go.Proofs.W
open Go Vm Go.Proofs.Zs06

theorem primA [Base] : PrimOk Try.prog A := by
  intro f p h args H r hr ρ im w vs hR hvs
  simp only [A] at h
  split at h
  · rename_i e; subst e; cases h
    exact pSort_at (fun blk cap zs w h1 h2 h3 => Try.slices_Sort_int blk 0 cap zs w h1 h2 h3) (fun p cap w => Try.slices_Sort_int_none p cap w) args H r hr ρ im w vs hR hvs
  · split at h
    · rename_i e; subst e; cases h
      exact pCompact_at (fun blk cap zs w h1 h2 h3 => Try.slices_Compact_int blk 0 cap zs w h1 h2 h3) (fun p cap w => Try.slices_Compact_int_empty p cap w) args H r hr ρ im w vs hR hvs
    · cases h
end Go.Proofs.W
end
