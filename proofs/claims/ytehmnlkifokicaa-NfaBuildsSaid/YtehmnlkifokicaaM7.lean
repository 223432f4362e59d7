/- Texts that stand behind this claim, one after the other. -/
import Derived.Test.YtehmnlkifokicaaM6
import Derived.Test.YtehmnlkifokicaaM3
import Derived.Shelf.Small.Bits
import Derived.Shelf.Small.Wraps
import Derived.Shelf.Strconv.Itoa0
import Derived.Shelf.Sort.Plain
import Derived.Ground.Names2Prog
import Derived.Shelf.Slices.CompactI
import Derived.Shelf.Slices.SearchI
import Derived.Shelf.Slices.Cells
import Derived.Shelf.Slices.In.SortNone
import Derived.Test.YtehmnlkifokicaaProg
/- Expressions: the program's count of nodes. -/
section
set_option maxHeartbeats 4000000
set_option linter.unusedVariables false
set_option linter.unusedSimpArgs false
namespace Go.Proofs.W
open Go Vm Go.Proofs.Zsb6

/-- a cell that is written; what lay elsewhere lies there still -/
structure PtrTo (H H' : Heap) (p : Nat) (v : D) : Prop where
  len : H.length ≤ H'.length
  at_ : hget H' p = .arr [v]
  low : ∀ k, k < H.length → k ≠ p → hget H' k = hget H k
theorem lt_of_hget {H : Heap} {p : Nat} {xs : List D} (h : hget H p = .arr xs) : p < H.length := hget_lt h (by simp)
theorem PtrTo.trans {H H1 H2 : Heap} {p : Nat} {v w : D} (h : PtrTo H H1 p v) (g : PtrTo H1 H2 p w) : PtrTo H H2 p w :=
  ⟨Nat.le_trans h.len g.len, g.at_, fun k hk hne => by rw [g.low k (Nat.lt_of_lt_of_le hk h.len) hne, h.low k hk hne]⟩
theorem wpB_heap {N : Nat} {c : Code} {e : Env} {H : Heap} {Q : Ex → Env → Heap → Prop} (I : Heap → Prop) (h0 : I H) (h : ∀ H, I H → WpB Try.prog A N c e H Q) : WpB Try.prog A N c e H Q := h H h0
theorem hget_new {H : Heap} {ob : Ob} {L : List Ob} : hget (H ++ ob :: L) H.length = ob := by
  rw [hget_app0]; rfl
mutual
theorem cnt_lo : ∀ (r : Rx) (d : Nat) (left : Int), 0 ≤ left → (cntR r d left).2 ≤ left ∧ ((cntR r d left).1 = true → 0 ≤ (cntR r d left).2)
  | .mk k s l, d, left, h => by
    simp only [cntR]
    split
    · exact ⟨by simp only; omega, fun h => by cases h⟩
    · rename_i hc
      have := cntL_lo l (d - 1) (left - 1) (by omega)
      exact ⟨by omega, this.2⟩
theorem cntL_lo : ∀ (l : List Rx) (d : Nat) (left : Int), 0 ≤ left → (cntL l d left).2 ≤ left ∧ ((cntL l d left).1 = true → 0 ≤ (cntL l d left).2)
  | [], d, left, h => by simp [cntL, h]
  | r :: l, d, left, h => by
    simp only [cntL]
    have h1 := cnt_lo r d left h
    split
    · rename_i hc
      have h2 := cntL_lo l d _ (h1.2 hc)
      exact ⟨by omega, h2.2⟩
    · rename_i hc
      exact ⟨h1.1, fun h => by cases h⟩
end
theorem count_ok : ∀ (d : Nat) (hd : d ≤ 1000) (r : Rx) (hr : okR r) (left : Int) (h0 : 0 ≤ left) (h1 : left ≤ 1000) (H : Heap) (p : Nat) (hp : hget H p = .arr [.int .i64 left]),
    EvF Try.prog A 27 [rxD r, .int .i64 d, .ptr p 0 0] H (fun x H' => x = .bool (cntR r d left).1 ∧ PtrTo H H' p (.int .i64 (cntR r d left).2)) (fun _ _ => False) := by
  intro d
  induction d with
  | zero =>
    intro hd r hr left h0 h1 H p hp
    have hlt := lt_of_hget hp
    have hsh := shape_ok r hr
    have hst := strip1 (strip_rx r)
    obtain ⟨k, s, l⟩ := r
    have hcn : cntR (.mk k s l) 0 left = (false, left - 1) := by simp [cntR]
    rw [hcn]
    have c1 := rx_cells (.mk k s l)
    have c2 := rx_aggQ (.mk k s l)
    have c3 := rx_noTup (.mk k s l)
    generalize rxD (.mk k s l) = d at *
    refine evF_inB (n := 41) (rs := [.tmp 6]) Try.func27 rfl rfl rfl rfl rfl rfl ?_
    (refine wz1 ?_; refine wz2 ?_; simp -dsimp (maxSteps:=999999) (disch:=omega) only[go_sem,simprocAttr, *])
    (refine wz1 ?_; refine wz2 ?_; simp -dsimp (maxSteps:=999999) (disch:=omega) only[go_sem,simprocAttr, *,hget_app_lt])
    refine wpB_heap (fun H1 => hget H1 p = .arr [.int .i64 (left - 1)] ∧ PtrTo H H1 p (.int .i64 (left - 1))) ?_ ?_
    · refine ⟨hget_set_eq (by simp; omega), ⟨by simp, hget_set_eq (by simp; omega), fun k hk hne => ?_⟩⟩
      rw [hget_set_ne (by omega), hget_app_lt hk]
    · rintro H1 ⟨hp1, hPt⟩
      by_cases hl : left - 1 < 0
      · repeat' (first | refine wz1 ?_ | refine wz2 ?_ | refine wz3 ?_ | refine wz4 ?_ | refine wz5 ?_ | refine wz6 ?_ | simp -dsimp (maxSteps:=999999) (disch:=omega) only[go_sem,simprocAttr, *])
        refine wz7 (fun hb => ?_) (fun hb => ?_) <;> try simp -dsimp (maxSteps:=999999) (disch:=omega) only[go_sem,simprocAttr,decide_eq_true_eq,decide_eq_false_iff_not,Bool.not_eq_true,Bool.not_eq_false,Int.not_lt,Int.not_le] at hb
        repeat' (first | refine wz1 ?_ | refine wz2 ?_ | refine wz3 ?_ | refine wz4 ?_ | refine wz5 ?_ | refine wz6 ?_ | simp -dsimp (maxSteps:=999999) (disch:=omega) only[go_sem,simprocAttr, *])
      · repeat' (first | refine wz1 ?_ | refine wz2 ?_ | refine wz3 ?_ | refine wz4 ?_ | refine wz5 ?_ | refine wz6 ?_ | simp -dsimp (maxSteps:=999999) (disch:=omega) only[go_sem,simprocAttr, *])
        refine wz7 (fun hb => ?_) (fun hb => ?_) <;> try simp -dsimp (maxSteps:=999999) (disch:=omega) only[go_sem,simprocAttr,decide_eq_true_eq,decide_eq_false_iff_not,Bool.not_eq_true,Bool.not_eq_false,Int.not_lt,Int.not_le] at hb
        repeat' (first | refine wz1 ?_ | refine wz2 ?_ | refine wz3 ?_ | refine wz4 ?_ | refine wz5 ?_ | refine wz6 ?_ | simp -dsimp (maxSteps:=999999) (disch:=omega) only[go_sem,simprocAttr, *])
  | succ d ih =>
    intro hd r hr left h0 h1 H p hp
    have hlt := lt_of_hget hp
    have hsh := shape_ok r hr
    have hst := strip1 (strip_rx r)
    obtain ⟨k, s, l⟩ := r
    obtain ⟨_, _, _, _, hlen, hok⟩ := hr
    simp only [Rx.k, Rx.s, Rx.kids] at hsh
    refine evF_inB (n := 41) (rs := [.tmp 6]) Try.func27 rfl rfl rfl rfl rfl rfl ?_
    (refine wz1 ?_; refine wz2 ?_; simp -dsimp (maxSteps:=999999) (disch:=omega) only[go_sem,simprocAttr, *])
    (refine wz1 ?_; refine wz2 ?_; simp -dsimp (maxSteps:=999999) (disch:=omega) only[go_sem,simprocAttr, *,hget_app_lt])
    refine wpB_heap (fun H1 => hget H1 p = .arr [.int .i64 (left - 1)] ∧ PtrTo H H1 p (.int .i64 (left - 1)) ∧ hget H1 H.length = .arr [rxD (.mk k s l)] ∧ H.length < H1.length) ?_ ?_
    · refine ⟨hget_set_eq (by simp; omega), ⟨by simp, hget_set_eq (by simp; omega), fun k hk hne => ?_⟩, ?_, by simp⟩
      · rw [hget_set_ne (by omega), hget_app_lt hk]
      · rw [hget_set_ne (by omega), hget_new]; rfl
    · rintro H1 ⟨hp1, hPt, hq, hql⟩
      by_cases hl : left - 1 < 0
      · have hcn : cntR (.mk k s l) (d + 1) left = (false, left - 1) := by simp only [cntR]; rw [if_pos (.inl hl)]
        rw [hcn]
        repeat' (first | refine wz1 ?_ | refine wz2 ?_ | refine wz3 ?_ | refine wz4 ?_ | refine wz5 ?_ | refine wz6 ?_ | simp -dsimp (maxSteps:=999999) (disch:=omega) only[go_sem,simprocAttr, *])
        refine wz7 (fun hb => ?_) (fun hb => ?_) <;> try simp -dsimp (maxSteps:=999999) (disch:=omega) only[go_sem,simprocAttr,decide_eq_true_eq,decide_eq_false_iff_not,Bool.not_eq_true,Bool.not_eq_false,Int.not_lt,Int.not_le] at hb
        repeat' (first | refine wz1 ?_ | refine wz2 ?_ | refine wz3 ?_ | refine wz4 ?_ | refine wz5 ?_ | refine wz6 ?_ | simp -dsimp (maxSteps:=999999) (disch:=omega) only[go_sem,simprocAttr, *])
      · cases hs : shape1 k s l.length with
        | false =>
          have hcn : cntR (.mk k s l) (d + 1) left = (false, left - 1) := by simp only [cntR]; rw [if_pos (.inr (.inr hs))]
          rw [hcn]
          rw [hs] at hsh
          repeat' (first | refine wz1 ?_ | refine wz2 ?_ | refine wz3 ?_ | refine wz4 ?_ | refine wz5 ?_ | refine wz6 ?_ | simp -dsimp (maxSteps:=999999) (disch:=omega) only[go_sem,simprocAttr, *])
          refine evB_plain bo34 rfl rfl hst hsh ?_
          simp -dsimp (maxSteps:=999999) (disch:=omega) only[go_sem,simprocAttr, *]
          refine wz7 (fun hb => ?_) (fun hb => ?_) <;> try simp -dsimp (maxSteps:=999999) (disch:=omega) only[go_sem,simprocAttr,decide_eq_true_eq,decide_eq_false_iff_not,Bool.not_eq_true,Bool.not_eq_false,Int.not_lt,Int.not_le] at hb
          repeat' (first | refine wz1 ?_ | refine wz2 ?_ | refine wz3 ?_ | refine wz4 ?_ | refine wz5 ?_ | refine wz6 ?_ | simp -dsimp (maxSteps:=999999) (disch:=omega) only[go_sem,simprocAttr, *])
        | true =>
          have hcn : cntR (.mk k s l) (d + 1) left = cntL l d (left - 1) := by simp only [cntR]; rw [if_neg (by simp [hs]; omega)]; rfl
          rw [hcn]
          rw [hs] at hsh
          clear hcn
          repeat' (first | refine wz1 ?_ | refine wz2 ?_ | refine wz3 ?_ | refine wz4 ?_ | refine wz5 ?_ | refine wz6 ?_ | simp -dsimp (maxSteps:=999999) (disch:=omega) only[go_sem,simprocAttr, *])
          refine evB_plain bo34 rfl rfl hst hsh ?_
          simp -dsimp (maxSteps:=999999) (disch:=omega) only[go_sem,simprocAttr, *]
          refine wz7 (fun hb => ?_) (fun hb => ?_) <;> try simp -dsimp (maxSteps:=999999) (disch:=omega) only[go_sem,simprocAttr,decide_eq_true_eq,decide_eq_false_iff_not,Bool.not_eq_true,Bool.not_eq_false,Int.not_lt,Int.not_le] at hb
          repeat' (first | refine wz1 ?_ | refine wz2 ?_ | refine wz3 ?_ | refine wz4 ?_ | refine wz5 ?_ | refine wz6 ?_ | simp -dsimp (maxSteps:=999999) (disch:=omega) only[go_sem,simprocAttr, *])
          refine wpB_loop (fun e H2 => ∃ j : Nat, j ≤ l.length ∧ e 1 = .int .i64 ((d : Int) + 1) ∧ e 2 = .ptr p 0 0 ∧ e 28 = .sl false (rxDs l) ∧ e 29 = .int .i64 l.length ∧ e 30 = .int .i64 j ∧ ∃ left' : Int, 0 ≤ left' ∧ left' ≤ 1000 ∧ PtrTo H H2 p (.int .i64 left') ∧ cntL l d (left - 1) = cntL (l.drop j) d left') (fun e H => l.length - natOf (e 30)) ?_ ?_
          · exact ⟨0, Nat.zero_le _, gs, gs, gs, gs, rfl, left - 1, by omega, by omega, hPt, by simp⟩
          · clear hq hql hPt hp1 hb hsh H1 
            rintro e H2 ⟨j, hj, e1, e2, e28, e29, e30, left', hl0, hl1, hPt, ha⟩ R hR
            repeat' (first | refine wz1 ?_ | refine wz2 ?_ | refine wz3 ?_ | refine wz4 ?_ | refine wz5 ?_ | refine wz6 ?_ | simp -dsimp (maxSteps:=999999) (disch:=omega) only[go_sem,simprocAttr, *])
            refine wz7 (fun hb2 => ?_) (fun hb2 => ?_) <;> try simp -dsimp (maxSteps:=999999) (disch:=omega) only[go_sem,simprocAttr,decide_eq_true_eq,decide_eq_false_iff_not,Bool.not_eq_true,Bool.not_eq_false,Int.not_lt,Int.not_le] at hb2
            · rw [List.drop_eq_getElem_cons hb2] at ha
              simp only [cntL] at ha
              have hst2 := strip1 (strip_rx l[j])
              have hkid := okL_get hok _ (List.getElem_mem hb2)
              have c1 := rx_cells l[j]
              have c2 := rx_aggQ l[j]
              have c3 := rx_noTup l[j]
              have hlt2 := lt_of_hget hPt.at_
              have hlow : ∀ (L : List Ob), hget (H2 ++ L) p = .arr [.int .i64 left'] := fun L => by rw [hget_app_lt hlt2, hPt.at_]
              have ihj := ih (by omega) l[j] hkid left' hl0 hl1
              have hcl := cnt_lo l[j] d left' hl0
              obtain ⟨b, lf, hc⟩ : ∃ b lf, cntR l[j] d left' = (b, lf) := ⟨_, _, rfl⟩
              rw [hc] at ha hcl
              simp only [hc] at ihj
              repeat' (first | refine wz1 ?_ | refine wz2 ?_ | refine wz3 ?_ | refine wz4 ?_ | refine wz5 ?_ | refine wz6 ?_ | simp -dsimp (maxSteps:=999999) (disch:=omega) only[go_sem,simprocAttr, *])
              refine evB_state bo27 rfl rfl (ihj _ p (hlow _)) ?_ (fun _ _ h => h.elim)
              rintro _ H3 ⟨rfl, hP3⟩
              have hP : PtrTo H H3 p (.int .i64 lf) := ⟨by have := hPt.len; have := hP3.len; simp at this; omega, hP3.at_, fun k hk hne => by
                have h1 := hPt.len
                rw [hP3.low k (by simp; omega) hne, hget_app_lt (by omega), hPt.low k hk hne]⟩
              cases b with
              | false =>
                simp only [Bool.false_eq_true, if_false] at ha
                rw [ha]
                simp -dsimp (maxSteps:=999999) (disch:=omega) only[go_sem,simprocAttr, *]
                refine wz7 (fun hb3 => ?_) (fun hb3 => ?_) <;> try simp -dsimp (maxSteps:=999999) (disch:=omega) only[go_sem,simprocAttr,decide_eq_true_eq,decide_eq_false_iff_not,Bool.not_eq_true,Bool.not_eq_false,Int.not_lt,Int.not_le] at hb3
                repeat' (first | refine wz1 ?_ | refine wz2 ?_ | refine wz3 ?_ | refine wz4 ?_ | refine wz5 ?_ | refine wz6 ?_ | simp -dsimp (maxSteps:=999999) (disch:=omega) only[go_sem,simprocAttr, *])
              | true =>
                simp only [if_true] at ha hcl
                simp -dsimp (maxSteps:=999999) (disch:=omega) only[go_sem,simprocAttr, *]
                refine wz7 (fun hb3 => ?_) (fun hb3 => ?_) <;> try simp -dsimp (maxSteps:=999999) (disch:=omega) only[go_sem,simprocAttr,decide_eq_true_eq,decide_eq_false_iff_not,Bool.not_eq_true,Bool.not_eq_false,Int.not_lt,Int.not_le] at hb3
                repeat' (first | refine wz1 ?_ | refine wz2 ?_ | refine wz3 ?_ | refine wz4 ?_ | refine wz5 ?_ | refine wz6 ?_ | simp -dsimp (maxSteps:=999999) (disch:=omega) only[go_sem,simprocAttr, *])
                refine hR _ _ ⟨j + 1, by omega, gs, gs, gs, gs, gs, lf, hcl.2 trivial, by omega, hP, ha⟩ ?_
                simp -dsimp (maxSteps:=999999) (disch:=omega) only[go_sem,simprocAttr, *,natOf_int]
            · rw [List.drop_eq_nil_of_le (by omega)] at ha
              rw [ha]
              repeat' (first | refine wz1 ?_ | refine wz2 ?_ | refine wz3 ?_ | refine wz4 ?_ | refine wz5 ?_ | refine wz6 ?_ | simp -dsimp (maxSteps:=999999) (disch:=omega) only[go_sem,simprocAttr, *])
              exact ⟨rfl, hPt⟩
end Go.Proofs.W
end
/- What is shown of the interpreter's run of a function that writes nothing holds of the function's calls. -/
section
set_option linter.unusedVariables false
namespace Vm
open Go
theorem calls_of_ev [Base] {P : Program} {A : Ann} {f : FuncId} {args : List D} {H : Heap} {d : D} (hmo : P.follows .mixedOrders = true) (hA : PrimOk P A) (hb : bodied P f = true) (h : EvF P A f args H (fun d' H' => d' = d ∧ H' = H) (fun _ _ => False))
    {ρ : Rho} {im : Im} {w : World} {vs : List Value} (hR : Rel ρ im H w) (hvs : RepA ρ H.length im vs args) : Calls P f ⟨vs⟩ w (OutR ρ im H w (.ok d H)) := by
  obtain ⟨k, res, h1, h2⟩ := h
  cases res with
  | pan d' H' => exact h2.elim
  | ok d' H' =>
    obtain ⟨rfl, rfl⟩ := h2
    exact (runF_ok hmo hA k f args _ _ h1 ρ im w vs hR hvs).calls hb
/-- what is shown of a function's run with memory of its own holds of its calls with plain arguments -/
theorem calls_of_pure [Base] {P : Program} {A : Ann} {f : FuncId} {args : List D} {H : Heap} {d : D} (hmo : P.follows .mixedOrders = true) (hA : PrimOk P A) (hb : bodied P f = true) (h : PureF P A f args d) (hst : stripL args = some args)
    {ρ : Rho} {im : Im} {w : World} {vs : List Value} (hR : Rel ρ im H w) (hvs : RepA ρ H.length im vs args) : Calls P f ⟨vs⟩ w (OutR ρ im H w (.ok d H)) := by
  obtain ⟨k, res, h1, h2⟩ := h
  cases res with
  | pan d' H' => exact h2.elim
  | ok d' H' =>
    have := OutR.of_pure (runF_ok hmo hA k) hb hR (Mv.refl hR) hvs hst h1 h2
    rwa [ite_self] at this
mutual
/-- the same plain data? -/
def eqPl : D → D → Bool
  | .bool a, .bool b => a == b
  | .int k a, .int k' b => decide (k = k') && a == b
  | .str a, .str b => a == b
  | .nilp, .nilp | .nilm, .nilm | .niln, .niln | .nili, .nili => true
  | .sl f a, .sl g b => f == g && eqPlL a b
  | .agg a, .agg b => eqPlL a b
  | .tup a, .tup b => eqPlL a b
  | _, _ => false
def eqPlL : List D → List D → Bool
  | [], [] => true
  | x :: r, y :: s => eqPl x y && eqPlL r s
  | _, _ => false
end
mutual
theorem eqPl_eq : ∀ {a b : D}, eqPl a b = true → a = b
  | .bool a, b, h => by cases b <;> simp_all [eqPl]
  | .int k a, b, h => by cases b <;> simp_all [eqPl]
  | .str a, b, h => by cases b <;> simp_all [eqPl]
  | .nilp, b, h => by cases b <;> simp_all [eqPl]
  | .nilm, b, h => by cases b <;> simp_all [eqPl]
  | .niln, b, h => by cases b <;> simp_all [eqPl]
  | .nili, b, h => by cases b <;> simp_all [eqPl]
  | .sl f a, b, h => by
    cases b <;> simp only [eqPl] at h <;> first | (cases h; done) | skip
    simp only [Bool.and_eq_true, beq_iff_eq] at h
    rw [h.1, eqPlL_eq h.2]
  | .agg a, b, h => by
    cases b <;> simp only [eqPl] at h <;> first | (cases h; done) | skip
    rw [eqPlL_eq h]
  | .tup a, b, h => by
    cases b <;> simp only [eqPl] at h <;> first | (cases h; done) | skip
    rw [eqPlL_eq h]
  | .ptr .., b, h | .ept .., b, h | .vec .., b, h | .map _, b, h | .fn .., b, h | .bfn .., b, h | .iface .., b, h | .yld _, b, h => by simp [eqPl] at h
theorem eqPlL_eq : ∀ {a b : List D}, eqPlL a b = true → a = b
  | [], b, h => by cases b <;> simp_all [eqPlL]
  | x :: r, b, h => by
    cases b with
    | nil => simp [eqPlL] at h
    | cons y s =>
      simp only [eqPlL, Bool.and_eq_true] at h
      rw [eqPl_eq h.1, eqPlL_eq h.2]
end
/-- a closed run tells this -/
def tells (x : Option R) (d : D) : Bool :=
  match x with
  | some (.ok d' H) => match outPure H d' with
    | some e => eqPl e d
    | none => false
  | _ => false
theorem tells_pure {P : Program} {A : Ann} {f : FuncId} {k : Nat} {args : List D} {d : D} (h : tells (runF P A k f args []) d = true) : PureF P A f args d := by
  unfold tells at h
  split at h
  · rename_i d' H hr
    split at h
    · rename_i e ho
      refine ⟨k, _, hr, ?_⟩
      show outPure H d' = some d
      rw [ho, eqPl_eq h]
    · cases h
  · cases h
/-- told at once, for arguments that are known -/
def onlyP (al : List D) (d : D) : List D → Heap → Option R := fun args H => (pures H args).bind fun (bs, H') => if eqPlL bs al = true then some (.ok d (if flat d then H else H')) else none
theorem only_calls [Base] {P : Program} {A : Ann} {f : FuncId} {al args : List D} {H : Heap} {d : D} {r : R} (hmo : P.follows .mixedOrders = true) (hA : PrimOk P A) (hb : bodied P f = true) (hq : primQ A f = false) (hm : A.mode f = .pure) (hp : PureF P A f al d) (h : onlyP al d args H = some r)
    {ρ : Rho} {im : Im} {w : World} {vs : List Value} (hR : Rel ρ im H w) (hvs : RepA ρ H.length im vs args) : Calls P f ⟨vs⟩ w (OutR ρ im H w r) := by
  unfold onlyP at h
  obtain ⟨⟨bs, H'⟩, h1, h2⟩ := bind_some h
  simp only at h2
  split at h2
  · rename_i he
    cases h2
    have := eqPlL_eq he
    subst this
    obtain ⟨k, res, h3, h4⟩ := hp
    cases res with
    | pan d' H' => exact h4.elim
    | ok d' Hc =>
      have hc : callD P A (runF P A k) f args H = some (.ok d (if flat d then H else H')) := by
        simp only [callD, hb, Bool.true_eq_false, if_false, (primQ_none hq).1, (primQ_none hq).2, hm, h1, Option.bind_some, h3]
        rw [if_neg (by decide), h4]
        rfl
      rcases callD_ok hA (runF_ok hmo hA k) hR hvs hc with ⟨_, hcalls⟩ | ⟨_, _, _, _, _, hx, _⟩
      · exact hcalls
      · rw [callFunc_run hb] at hx
        cases hx
  · cases h2
end Vm
end
/- Lists of numbers. -/
section
set_option maxHeartbeats 4000000
set_option linter.unusedVariables false
set_option linter.unusedSimpArgs false
namespace Go.Proofs.W
open Go Vm Go.Proofs.Zsb6

def isD (l : List Int) : D := .sl false (l.map (.int .i64))
theorem strip_ints (l : List Int) : stripL (l.map (.int .i64)) = some (l.map (.int .i64)) := by
  induction l with
  | nil => rfl
  | cons q r ih => simp [stripL, ih, strip]
theorem strip_is (l : List Int) : strip (isD l) = some (isD l) := by simp [isD, strip, strip_ints]
theorem take_succ' {α : Type} {l : List α} {j : Nat} (h : j < l.length) : l.take (j + 1) = l.take j ++ [l[j]] := by rw [List.take_add_one, List.getElem?_eq_getElem h]; rfl
theorem headInts (l : List Int) : headSize 1 (l.map (D.int .i64)) = true := by cases l <;> rfl
/-- all numbers from one on -/
def allN (p : Nat → Bool) : Nat → Nat → Bool
  | _, 0 => true
  | j, m + 1 => p j && allN p (j + 1) m
theorem allN_iff {p : Nat → Bool} : ∀ {m j : Nat}, allN p j m = true ↔ ∀ i, j ≤ i → i < j + m → p i = true
  | 0, j => by simp [allN]; intro i h1 h2; omega
  | m + 1, j => by
    simp only [allN, Bool.and_eq_true, allN_iff (m := m)]
    constructor
    · rintro ⟨h0, h⟩ i h1 h2
      by_cases e : i = j
      · subst e; exact h0
      · exact h i (by omega) (by omega)
    · intro h
      exact ⟨h j (Nat.le_refl _) (by omega), fun i h1 h2 => h i (by omega) (by omega)⟩
theorem strip3 {a b c : D} (h : strip a = some a) (k : strip b = some b) (j : strip c = some c) : stripL [a, b, c] = some [a, b, c] := by simp [stripL, h, k, j]
theorem ex_at {α : Type} {l : List α} {i : Nat} (d : α) (h : i < l.length) : ∃ x, l[i]? = some x ∧ l.getD i d = x := ⟨l[i], List.getElem?_eq_getElem h, by simp [List.getD, h]⟩
/-- kept out of simp's sight -/
def Hid (p : Prop) : Prop := p
theorem allL_drop {p : Int → Bool} {l : List Int} {j : Nat} (h : j < l.length) : (l.drop j).all p = (p l[j] && (l.drop (j + 1)).all p) := by
  rw [List.drop_eq_getElem_cons h]; rfl
end Go.Proofs.W
end
/- Lists of numbers, for every chapter that does not speak of rules: as the program has them. -/
section
set_option maxHeartbeats 4000000
set_option linter.unusedVariables false
set_option linter.unusedSimpArgs false
namespace Go.Proofs.W
open Go Vm Go.Proofs.Zsb6

theorem app_int {m : Nat} {d : D} {H : Heap} {l : List Int} (h : VecAt m d H (l.map (.int .i64))) (x : Int) (hl : l.length ≤ 1000000) : ∃ d' H', appendD Try.prog 27 (H ++ [Ob.arr [.int .i64 x]]) d (.vec H.length 0 1) = some (d', H') ∧ VecAt m d' H' ((l ++ [x]).map (.int .i64)) ∧ Same m H H' := by
  have := VecAt.append el27 sz3 by3 zr3 rfl (by decide) h (q := .int .i64 x) rfl rfl (headInts l) (by simp; omega)
  simpa using this
theorem pures_vec {m : Nat} {a v : D} {H : Heap} {xs : List D} (h : VecAt m v H xs) (hs : stripL xs = some xs) (ha : strip a = some a) : ∃ H', pures H [a, v] = some ([a, .sl false xs], H') := by
  obtain ⟨H', hp⟩ := h.pur (k := 4) hs
  refine ⟨H', ?_⟩
  simp only [pures, deepest, purL, pur_strip ha, Option.bind_some, hp, Option.map_some]
end Go.Proofs.W
end
/- More behind lists of one's own. -/
section
set_option maxHeartbeats 4000000
set_option linter.unusedVariables false
set_option linter.unusedSimpArgs false
namespace Go.Proofs.W
open Go Vm Go.Proofs.Zsb6

/-- more behind a list of one's own -/
theorem vecAt_appendL {t e : TypeId} {n w m : Nat} {z d y : D} {H H1 : Heap} {xs ys : List D} (he : elemT Try.prog t = some e) (hn : sizeT Try.prog e = some n) (hw : bytesT Try.prog e = some w) (hz : zeroT Try.prog e = some z) (hzn : z.cells.length = n) (hw0 : w ≠ 0)
    (h : VecAt m d H xs) (hl : H.length ≤ H1.length) (hk : ∀ r, r < H.length → hget H1 r = hget H r) (hadd : addedD H1 y = some (ys, H1)) (hy : ys ≠ []) (hys : headSize n ys = true) (hx : headSize n xs = true) (hm : (xs.length + ys.length) * w ≤ 140737488355328) :
    ∃ d' H', appendD Try.prog t H1 d y = some (d', H') ∧ VecAt m d' H' (xs ++ ys) ∧ Same m H H' := by
  have hye : ys.isEmpty = false := by simpa using hy
  obtain ⟨h0, ⟨rfl, rfl⟩ | ⟨h1, r, h2, h4, rfl, h3⟩⟩ := h
  · refine ⟨.vec H1.length 0 (0 + ys.length), H1 ++ [Ob.arr ([] ++ ys)], ?_, ⟨by simp; omega, .inr ⟨by simpa using hy, H1.length, by omega, by simp, by simp, ?_⟩⟩, ⟨by simp; omega, fun k hk' => ?_⟩⟩
    · simp only [appendD, he, hn, hw, hz, Option.bind_some, hadd, hzn]
      have hm' : ys.length * w ≤ 140737488355328 := by simpa using hm
      have h0s : headSize n ([] : List D) = true := rfl
      simp [hw0, hys, hye, h0s, mostBytes, hm']
    · rw [hget_app0]; rfl
    · rw [hget_app_lt (by omega), hk k (by omega)]
  · have hg : hget H1 r = .arr xs := by rw [hk r h4, h3]
    have hne : xs.isEmpty = false := by simpa using h1
    refine ⟨.vec H1.length 0 (xs.length + ys.length), H1.set r Ob.dead ++ [Ob.arr (xs ++ ys)], ?_, ⟨by simp; omega, .inr ⟨by simp [h1], H1.length, by omega, by simp, by simp, ?_⟩⟩, ⟨by simp; omega, fun k hk' => ?_⟩⟩
    · simp only [appendD, he, hn, hw, hz, Option.bind_some, hadd, hzn]
      simp [hw0, hys, hye, hg, hx, hne, hm, mostBytes]
    · have := hget_app0 (H := H1.set r Ob.dead) (L := [Ob.arr (xs ++ ys)])
      rw [List.length_set] at this
      rw [this]; rfl
    · rw [hget_app_lt (by simp; omega), hget_set_ne (by omega), hk k (by omega)]
theorem vecAt_elems {m : Nat} {d : D} {H : Heap} {xs : List D} (h : VecAt m d H xs) : Vm.elems H d = some xs := by
  obtain ⟨h0, ⟨rfl, rfl⟩ | ⟨h1, r, h2, h4, rfl, h3⟩⟩ := h
  · rfl
  · simp [Vm.elems, h3]
theorem add_is (H : Heap) (l : List Int) : addedD H (.sl false (l.map (.int .i64))) = some (l.map (.int .i64), H) := by
  simp only [addedD, elems, Option.bind_some, puresA]
  split
  · rfl
  · exact pures_strip (strip_ints l)
/-- numbers behind a list of one's own -/
theorem app_is {m : Nat} {d : D} {H : Heap} {xs : List Int} (h : VecAt m d H (xs.map (.int .i64))) (l : List Int) (hl : xs.length + l.length ≤ 1000000) : ∃ d' H', appendD Try.prog 27 H d (.sl false (l.map (.int .i64))) = some (d', H') ∧ VecAt m d' H' ((xs ++ l).map (.int .i64)) ∧ Same m H H' := by
  by_cases hn : l = []
  · subst hn
    refine ⟨d, H, ?_, by simpa using h, Same.refl⟩
    simp only [appendD, el27, sz3, by3, zr3, Option.bind_some, add_is]
    obtain ⟨h0, ⟨h1, rfl⟩ | ⟨h1, r, h2, h3, rfl, h4⟩⟩ := h
    · rfl
    · rfl
  · have := vecAt_appendL (t := 27) (H1 := H) (y := .sl false (l.map (.int .i64))) el27 sz3 by3 zr3 rfl (by decide) h (Nat.le_refl _) (fun r _ => rfl) (add_is H l) (by simpa using hn) (headInts l) (headInts xs) (by simp; omega)
    simpa using this
end Go.Proofs.W
end
/- A number into rising ones, once. -/
section
set_option maxHeartbeats 4000000
set_option linter.unusedVariables false
set_option linter.unusedSimpArgs false
namespace Go.Proofs.W
open Go Vm Go.Proofs.Zsb6

def intoL : List Int → Int → List Int
  | [], x => [x]
  | y :: r, x => if y < x then y :: intoL r x else if y = x then y :: r else x :: y :: r
theorem into_all : ∀ {l : List Int} {x : Int} {k : Nat}, k ≤ l.length → (∀ y ∈ l.take k, y < x) → intoL l x = l.take k ++ intoL (l.drop k) x
  | [], x, k, h, _ => by simp
  | y :: r, x, 0, h, _ => rfl
  | y :: r, x, k + 1, h, hy => by
    have h1 : y < x := hy y (by simp)
    rw [intoL, if_pos h1, List.take_succ_cons, List.drop_succ_cons, List.cons_append, into_all (k := k) (by simpa using h) (fun z hz => hy z (by simp [hz]))]
theorem into_snoc {l : List Int} {x : Int} (h : ∀ y ∈ l, y < x) : intoL l x = l ++ [x] := by
  have := into_all (l := l) (x := x) (k := l.length) (Nat.le_refl _) (by rw [List.take_length]; exact h)
  rwa [List.take_length, List.drop_length] at this
theorem into_len : ∀ (l : List Int) (x : Int), (intoL l x).length ≤ l.length + 1
  | [], x => by simp [intoL]
  | y :: r, x => by
    have := into_len r x
    rw [intoL]
    split
    · simp; omega
    · split <;> simp
theorem into_ne (l : List Int) (x : Int) : intoL l x ≠ [] := by
  cases l with
  | nil => simp [intoL]
  | cons y r =>
    rw [intoL]
    split
    · simp
    · split <;> simp
theorem into_mem {x : Int} : ∀ {l : List Int} {y : Int}, y ∈ intoL l x → y = x ∨ y ∈ l
  | [], y, h => by simp [intoL] at h; exact .inl h
  | z :: r, y, h => by
    rw [intoL] at h
    split at h
    · rcases List.mem_cons.1 h with rfl | h
      · exact .inr (by simp)
      · rcases into_mem h with h | h
        · exact .inl h
        · exact .inr (by simp [h])
    · split at h
      · exact .inr h
      · rcases List.mem_cons.1 h with rfl | h
        · exact .inl rfl
        · exact .inr h
theorem into_rise : ∀ {l : List Int} {x : Int}, l.Pairwise (· < ·) → (intoL l x).Pairwise (· < ·)
  | [], x, _ => by simp [intoL]
  | y :: r, x, h => by
    have h1 := List.pairwise_cons.1 h
    rw [intoL]
    by_cases c : y < x
    · rw [if_pos c]
      refine List.pairwise_cons.2 ⟨fun z hz => ?_, into_rise h1.2⟩
      rcases into_mem hz with rfl | hz
      · exact c
      · exact h1.1 z hz
    · rw [if_neg c]
      by_cases e : y = x
      · rw [if_pos e]; exact h
      · rw [if_neg e]
        refine List.pairwise_cons.2 ⟨fun z hz => ?_, h⟩
        rcases List.mem_cons.1 hz with rfl | hz
        · omega
        · have := h1.1 z hz; omega
theorem into_ok (l : List Int) (x : Int) (hl : l.length ≤ 100000) : PureF Try.prog A 22 [isD l, .int .i64 x] (isD (intoL l x)) := by
  have ew : isD l = .sl false (l.map (.int .i64)) := rfl
  refine evF_inB (n := 49) (rs := [.tmp 4]) Try.func22 rfl rfl rfl rfl rfl rfl ?_
  repeat' (first | refine wz1 ?_ | refine wz2 ?_ | refine wz3 ?_ | refine wz4 ?_ | refine wz5 ?_ | refine wz6 ?_ | simp -dsimp (maxSteps:=999999) (disch:=omega) only[go_sem,simprocAttr, *] | ((first | refine wz8 (fun hh => ?_) (fun hh => ?_) | refine wz9 (fun hh => ?_) (fun hh => ?_) | refine wz7 (fun hh => ?_) (fun hh => ?_)) <;> (try replace hh := vqs hh) <;> (try (exfalso; first | exact hh | omega))))
  refine wpB_loop (fun e H => ∃ (k : Nat) (d : D), k ≤ l.length ∧ VecAt 0 d H ((l.take k).map (.int .i64)) ∧ (∀ y ∈ l.take k, y < x) ∧ e 0 = isD l ∧ e 1 = .int .i64 x ∧ e 5 = d ∧ e 6 = .int .i64 k) (fun e H => l.length - natOf (e 6)) ?_ ?_
  · exact ⟨0, _, by omega, VecAt.nil (Nat.zero_le _), by simp, gs, gs, gs, gs⟩
  rintro e H ⟨k, d, hk, hv, hall, e0, e1, e5, e6⟩ R hR
  have hlen : (l.take k).length = k := by rw [List.length_take]; omega
  have hia := into_all hk hall
  have hsl : List.drop k (List.take l.length (List.map (D.int .i64) l)) = (l.drop k).map (.int .i64) := by rw [← List.map_take, List.take_length, List.map_drop]
  have hhd := headInts l
  by_cases hb : k < l.length
  · have hx : (l.map (D.int .i64))[k]? = some (.int .i64 l[k]) := by simp [hb]
    have htk := take_succ' hb
    have hdr : l.drop k = l[k] :: l.drop (k + 1) := List.drop_eq_getElem_cons hb
    by_cases hc : l[k] < x
    · obtain ⟨d', H', ha, hv', hsm⟩ := app_int hv l[k] (by omega)
      rw [← htk] at hv'
      have hall2 : ∀ y ∈ l.take (k + 1), y < x := fun y hy => by
        rw [htk] at hy
        rcases List.mem_append.1 hy with hy | hy
        · exact hall y hy
        · rw [List.mem_singleton.1 hy]; exact hc
      clear hia hsl htk hdr hall
      generalize l[k] = z at *
      repeat' (first | refine wz1 ?_ | refine wz2 ?_ | refine wz3 ?_ | refine wz4 ?_ | refine wz5 ?_ | refine wz6 ?_ | simp -dsimp (maxSteps:=999999) (disch:=omega) only[go_sem,simprocAttr, *] | ((first | refine wz8 (fun hh => ?_) (fun hh => ?_) | refine wz9 (fun hh => ?_) (fun hh => ?_) | refine wz7 (fun hh => ?_) (fun hh => ?_)) <;> (try replace hh := vqs hh) <;> (try (exfalso; first | exact hh | omega))))
      refine hR _ _ ⟨k + 1, d', by omega, hv', hall2, gs, gs, gs, gs⟩ ?_
      simp -dsimp (maxSteps:=999999) (disch:=omega) only[go_sem,simprocAttr, *,natOf_int]
    · by_cases hq : l[k] = x
      · have hres : intoL l x = l.take k ++ l.drop k := by
          rw [hia, hdr, intoL, if_neg hc, if_pos hq]
        obtain ⟨d', H', ha, hv', hsm⟩ := app_is hv (l.drop k) (by simp; omega)
        rw [← hres] at hv'
        have hout := hv'.out (strip_ints _)
        rw [← hsl] at ha
        clear hia hsl hres hdr htk hall hv'
        generalize l[k] = z at *
        repeat' (first | refine wz1 ?_ | refine wz2 ?_ | refine wz3 ?_ | refine wz4 ?_ | refine wz5 ?_ | refine wz6 ?_ | simp -dsimp (maxSteps:=999999) (disch:=omega) only[go_sem,simprocAttr, *] | ((first | refine wz8 (fun hh => ?_) (fun hh => ?_) | refine wz9 (fun hh => ?_) (fun hh => ?_) | refine wz7 (fun hh => ?_) (fun hh => ?_)) <;> (try replace hh := vqs hh) <;> (try (exfalso; first | exact hh | omega))))
        rfl
      · have hres : intoL l x = (l.take k ++ [x]) ++ l.drop k := by
          rw [hia, hdr, intoL, if_neg hc, if_neg hq]; simp
        obtain ⟨d1, H1, ha1, hv1, hsm1⟩ := app_int hv x (by omega)
        obtain ⟨d', H', ha, hv', hsm⟩ := app_is hv1 (l.drop k) (by simp; omega)
        rw [← hres] at hv'
        have hout := hv'.out (strip_ints _)
        rw [← hsl] at ha
        clear hia hsl hres hdr htk hall hv' hv1
        generalize l[k] = z at *
        repeat' (first | refine wz1 ?_ | refine wz2 ?_ | refine wz3 ?_ | refine wz4 ?_ | refine wz5 ?_ | refine wz6 ?_ | simp -dsimp (maxSteps:=999999) (disch:=omega) only[go_sem,simprocAttr, *] | ((first | refine wz8 (fun hh => ?_) (fun hh => ?_) | refine wz9 (fun hh => ?_) (fun hh => ?_) | refine wz7 (fun hh => ?_) (fun hh => ?_)) <;> (try replace hh := vqs hh) <;> (try (exfalso; first | exact hh | omega))))
        rfl
  · have hk2 : k = l.length := by omega
    subst hk2
    have hres : intoL l x = (l.take l.length ++ [x]) ++ l.drop l.length := by
      rw [hia, List.drop_length, intoL]; simp
    obtain ⟨d1, H1, ha1, hv1, hsm1⟩ := app_int hv x (by omega)
    obtain ⟨d', H', ha, hv', hsm⟩ := app_is hv1 (l.drop l.length) (by simp; omega)
    rw [← hres] at hv'
    have hout := hv'.out (strip_ints _)
    rw [← hsl] at ha
    clear hia hsl hres hall hv' hv1
    repeat' (first | refine wz1 ?_ | refine wz2 ?_ | refine wz3 ?_ | refine wz4 ?_ | refine wz5 ?_ | refine wz6 ?_ | simp -dsimp (maxSteps:=999999) (disch:=omega) only[go_sem,simprocAttr, *] | ((first | refine wz8 (fun hh => ?_) (fun hh => ?_) | refine wz9 (fun hh => ?_) (fun hh => ?_) | refine wz7 (fun hh => ?_) (fun hh => ?_)) <;> (try replace hh := vqs hh) <;> (try (exfalso; first | exact hh | omega))))
    rfl
end Go.Proofs.W
end
/- Machines with free steps: what they are as data; whether one may be. -/
section
set_option maxHeartbeats 4000000
set_option linter.unusedVariables false
set_option linter.unusedSimpArgs false
namespace Go.Proofs.W
open Go Vm Go.Proofs.Zsb6

structure Nfa where
  free : List (List Int)
  set : List Int
  to : List Int
  rule : List Int
def u16D (l : List Int) : D := .sl false (l.map (.int .u16))
def issD (l : List (List Int)) : D := .sl false (l.map isD)
def nfaD (n : Nfa) : D := .agg [issD n.free, u16D n.set, isD n.to, isD n.rule]
theorem strip_u16s (l : List Int) : stripL (l.map (.int .u16)) = some (l.map (.int .u16)) := by
  induction l with
  | nil => rfl
  | cons q r ih => simp [stripL, ih, strip]
theorem strip_iss (l : List (List Int)) : stripL (l.map isD) = some (l.map isD) := by
  induction l with
  | nil => rfl
  | cons q r ih => simp [stripL, ih, strip_is]
theorem strip_issD (l : List (List Int)) : strip (issD l) = some (issD l) := by simp [issD, strip, strip_iss]
theorem strip_u16D (l : List Int) : strip (u16D l) = some (u16D l) := by simp [u16D, strip, strip_u16s]
theorem strip_nfa (n : Nfa) : strip (nfaD n) = some (nfaD n) := by simp [nfaD, strip, stripL, strip_issD, strip_u16D, strip_is]
/-- is it a state? -/
def isS (k : Nat) (s : Int) : Bool := decide (0 ≤ s) && decide (s < k)
theorem isS_iff {k : Nat} {s : Int} : isS k s = true ↔ 0 ≤ s ∧ s < k := by simp [isS]
def rowOk (n : Nfa) (i : Nat) : Bool :=
  !(decide (n.set.getD i 0 ≠ 0) && !isS n.set.length (n.to.getD i 0)) && decide (-1 ≤ n.rule.getD i 0) && decide (n.rule.getD i 0 < 16) && (n.free.getD i []).all (isS n.set.length)
def rightN (n : Nfa) : Bool := decide (1 ≤ n.set.length ∧ n.set.length ≤ 3300 ∧ n.free.length = n.set.length ∧ n.to.length = n.set.length ∧ n.rule.length = n.set.length) && allN (rowOk n) 0 n.set.length
theorem is_at {l : List Int} {i : Nat} : (l.map (D.int .i64))[i]? = (l[i]?).map (.int .i64) := by simp
theorem right1_ok (s : Int) (k r : Nat) (H : Heap) (hg : hget H r = .arr [.int .i64 k]) : EvF Try.prog A 24 [.int .i64 s, .ptr r 0 0] H (fun d H' => d = .bool (isS k s) ∧ H' = H) (fun _ _ => False) := by
  refine evF_inB (n := 11) (rs := [.tmp 3]) Try.func24 rfl rfl rfl rfl rfl rfl ?_
  by_cases h0 : 0 ≤ s
  · by_cases h1 : s < k
    · repeat' (first | refine wz1 ?_ | refine wz2 ?_ | refine wz3 ?_ | refine wz4 ?_ | refine wz5 ?_ | refine wz6 ?_ | simp -dsimp (maxSteps:=999999) (disch:=omega) only[go_sem,simprocAttr, *,isS])
    · repeat' (first | refine wz1 ?_ | refine wz2 ?_ | refine wz3 ?_ | refine wz4 ?_ | refine wz5 ?_ | refine wz6 ?_ | simp -dsimp (maxSteps:=999999) (disch:=omega) only[go_sem,simprocAttr, *,isS])
  · repeat' (first | refine wz1 ?_ | refine wz2 ?_ | refine wz3 ?_ | refine wz4 ?_ | refine wz5 ?_ | refine wz6 ?_ | simp -dsimp (maxSteps:=999999) (disch:=omega) only[go_sem,simprocAttr, *,isS])
theorem isRow {n : Nfa} {i : Nat} (h : i < n.free.length) : (n.free.map isD)[i]? = some (isD n.free[i]) := by simp [h]
theorem nright_ok (n : Nfa) (hs : n.set.length ≤ 1000000) (hf : ∀ l ∈ n.free, l.length ≤ 1000000) : PureF Try.prog A 11 [nfaD n] (.bool (rightN n)) := by
  refine evF_inB (n := 91) (rs := [.tmp 2]) Try.func11 rfl rfl rfl rfl rfl rfl ?_
  by_cases c1 : n.set.length = 0
  · have hz : rightN n = false := by simp [rightN, c1]
    rw [hz]
    repeat' (first | refine wz1 ?_ | refine wz2 ?_ | refine wz3 ?_ | refine wz4 ?_ | refine wz5 ?_ | refine wz6 ?_ | simp -dsimp (maxSteps:=999999) (disch:=omega) only[go_sem,simprocAttr, *,nfaD, u16D])
    refine wz7 (fun hb => ?_) (fun hb => ?_) <;> try simp -dsimp (maxSteps:=999999) (disch:=omega) only[go_sem,simprocAttr,decide_eq_true_eq,decide_eq_false_iff_not,Bool.not_eq_true,Bool.not_eq_false,Int.not_lt,Int.not_le] at hb
    repeat' (first | refine wz1 ?_ | refine wz2 ?_ | refine wz3 ?_ | refine wz4 ?_ | refine wz5 ?_ | refine wz6 ?_ | simp -dsimp (maxSteps:=999999) (disch:=omega) only[go_sem,simprocAttr, *])
    try rfl
  by_cases c2 : n.set.length ≤ 3300
  case neg =>
    have hz : rightN n = false := by simp [rightN, c2]
    rw [hz]
    repeat' (first | refine wz1 ?_ | refine wz2 ?_ | refine wz3 ?_ | refine wz4 ?_ | refine wz5 ?_ | refine wz6 ?_ | simp -dsimp (maxSteps:=999999) (disch:=omega) only[go_sem,simprocAttr, *,nfaD, u16D])
    refine wz7 (fun hb => ?_) (fun hb => ?_) <;> try simp -dsimp (maxSteps:=999999) (disch:=omega) only[go_sem,simprocAttr,decide_eq_true_eq,decide_eq_false_iff_not,Bool.not_eq_true,Bool.not_eq_false,Int.not_lt,Int.not_le] at hb
    repeat' (first | refine wz1 ?_ | refine wz2 ?_ | refine wz3 ?_ | refine wz4 ?_ | refine wz5 ?_ | refine wz6 ?_ | simp -dsimp (maxSteps:=999999) (disch:=omega) only[go_sem,simprocAttr, *])
    try rfl
  by_cases c3 : n.free.length = n.set.length
  case neg =>
    have hz : rightN n = false := by simp [rightN, c3]
    rw [hz]
    repeat' (first | refine wz1 ?_ | refine wz2 ?_ | refine wz3 ?_ | refine wz4 ?_ | refine wz5 ?_ | refine wz6 ?_ | simp -dsimp (maxSteps:=999999) (disch:=omega) only[go_sem,simprocAttr, *,nfaD, u16D, issD])
    refine wz7 (fun hb => ?_) (fun hb => ?_) <;> try simp -dsimp (maxSteps:=999999) (disch:=omega) only[go_sem,simprocAttr,decide_eq_true_eq,decide_eq_false_iff_not,Bool.not_eq_true,Bool.not_eq_false,Int.not_lt,Int.not_le] at hb
    repeat' (first | refine wz1 ?_ | refine wz2 ?_ | refine wz3 ?_ | refine wz4 ?_ | refine wz5 ?_ | refine wz6 ?_ | simp -dsimp (maxSteps:=999999) (disch:=omega) only[go_sem,simprocAttr, *])
    try rfl
  by_cases c4 : n.to.length = n.set.length
  case neg =>
    have hz : rightN n = false := by simp [rightN, c4]
    rw [hz]
    repeat' (first | refine wz1 ?_ | refine wz2 ?_ | refine wz3 ?_ | refine wz4 ?_ | refine wz5 ?_ | refine wz6 ?_ | simp -dsimp (maxSteps:=999999) (disch:=omega) only[go_sem,simprocAttr, *,nfaD, u16D, issD, isD])
    refine wz7 (fun hb => ?_) (fun hb => ?_) <;> try simp -dsimp (maxSteps:=999999) (disch:=omega) only[go_sem,simprocAttr,decide_eq_true_eq,decide_eq_false_iff_not,Bool.not_eq_true,Bool.not_eq_false,Int.not_lt,Int.not_le] at hb
    repeat' (first | refine wz1 ?_ | refine wz2 ?_ | refine wz3 ?_ | refine wz4 ?_ | refine wz5 ?_ | refine wz6 ?_ | simp -dsimp (maxSteps:=999999) (disch:=omega) only[go_sem,simprocAttr, *])
    try rfl
  by_cases c5 : n.rule.length = n.set.length
  case neg =>
    have hz : rightN n = false := by simp [rightN, c5]
    rw [hz]
    repeat' (first | refine wz1 ?_ | refine wz2 ?_ | refine wz3 ?_ | refine wz4 ?_ | refine wz5 ?_ | refine wz6 ?_ | simp -dsimp (maxSteps:=999999) (disch:=omega) only[go_sem,simprocAttr, *,nfaD, u16D, issD, isD])
    refine wz7 (fun hb => ?_) (fun hb => ?_) <;> try simp -dsimp (maxSteps:=999999) (disch:=omega) only[go_sem,simprocAttr,decide_eq_true_eq,decide_eq_false_iff_not,Bool.not_eq_true,Bool.not_eq_false,Int.not_lt,Int.not_le] at hb
    repeat' (first | refine wz1 ?_ | refine wz2 ?_ | refine wz3 ?_ | refine wz4 ?_ | refine wz5 ?_ | refine wz6 ?_ | simp -dsimp (maxSteps:=999999) (disch:=omega) only[go_sem,simprocAttr, *])
    try rfl
  have hz : rightN n = allN (rowOk n) 0 n.set.length := by simp [rightN, c2, c3, c4, c5]; omega
  rw [hz]
  generalize hG : allN (rowOk n) 0 n.set.length = G
  clear hz
  repeat' (first | refine wz1 ?_ | refine wz2 ?_ | refine wz3 ?_ | refine wz4 ?_ | refine wz5 ?_ | refine wz6 ?_ | simp -dsimp (maxSteps:=999999) (disch:=omega) only[go_sem,simprocAttr, *,nfaD, u16D, issD, isD])
  refine wz7 (fun hb => ?_) (fun hb => ?_) <;> try simp -dsimp (maxSteps:=999999) (disch:=omega) only[go_sem,simprocAttr,decide_eq_true_eq,decide_eq_false_iff_not,Bool.not_eq_true,Bool.not_eq_false,Int.not_lt,Int.not_le] at hb
  repeat' (first | refine wz1 ?_ | refine wz2 ?_ | refine wz3 ?_ | refine wz4 ?_ | refine wz5 ?_ | refine wz6 ?_ | simp -dsimp (maxSteps:=999999) (disch:=omega) only[go_sem,simprocAttr, *,nfaD, u16D, issD, isD])
  let H0 : Heap := [Ob.arr [nfaD n], Ob.arr [.int .i64 n.set.length]]
  refine wpB_loop (fun e H => ∃ j m : Nat, j + m = n.set.length ∧ H = H0 ∧ e 1 = .ptr 0 0 0 ∧ e 3 = .ptr 1 0 0 ∧ e 4 = .fn 24 [.ptr 1 0 0] ∧ e 39 = .int .i64 n.set.length ∧ e 40 = .int .i64 j ∧ G = allN (rowOk n) j m) (fun e H => n.set.length - natOf (e 40)) ?_ ?_
  · exact ⟨0, n.set.length, by omega, rfl, gs, gs, gs, gs, gs, hG.symm⟩
  clear hG
  rintro e H ⟨j, m, hj, rfl, e1, e3, e4, e39, e40, ha⟩ R hR
  simp only [H0]
  repeat' (first | refine wz1 ?_ | refine wz2 ?_ | refine wz3 ?_ | refine wz4 ?_ | refine wz5 ?_ | refine wz6 ?_ | simp -dsimp (maxSteps:=999999) (disch:=omega) only[go_sem,simprocAttr, *,nfaD, u16D, issD, isD])
  refine wz7 (fun hb => ?_) (fun hb => ?_) <;> try simp -dsimp (maxSteps:=999999) (disch:=omega) only[go_sem,simprocAttr,decide_eq_true_eq,decide_eq_false_iff_not,Bool.not_eq_true,Bool.not_eq_false,Int.not_lt,Int.not_le] at hb
  · obtain ⟨m, rfl⟩ : ∃ x, m = x + 1 := ⟨m - 1, by omega⟩
    obtain ⟨s, hs1, hs2⟩ := ex_at (l := n.set) (i := j) 0 (by omega)
    obtain ⟨t, ht1, ht2⟩ := ex_at (l := n.to) (i := j) 0 (by omega)
    obtain ⟨ru, hr1, hr2⟩ := ex_at (l := n.rule) (i := j) 0 (by omega)
    obtain ⟨fr, hf1, hf2⟩ := ex_at (l := n.free) (i := j) [] (by omega)
    have hrow : allN (rowOk n) j (m + 1) = ((!(decide (s ≠ 0) && !isS n.set.length t) && decide (-1 ≤ ru) && decide (ru < 16) && fr.all (isS n.set.length)) && allN (rowOk n) (j + 1) m) := by simp only [allN, rowOk, hs2, ht2, hr2, hf2]
    rw [hrow] at ha
    clear hrow hs2 ht2 hr2 hf2
    rcases (by by_cases hs0 : s = 0; exact .inl hs0; by_cases hi : isS n.set.length t = true; exact .inr (.inr ⟨hs0, hi⟩); exact .inr (.inl ⟨hs0, by simpa using hi⟩) : s = 0 ∨ (s ≠ 0 ∧ isS n.set.length t = false) ∨ (s ≠ 0 ∧ isS n.set.length t = true)) with hs0 | ⟨hs0, hi⟩ | ⟨hs0, hi⟩
    rotate_left
    · have : G = false := by rw [ha, hi]; simp [hs0]
      rw [this]
      clear ha this
      repeat' (first | refine wz1 ?_ | refine wz2 ?_ | refine wz3 ?_ | refine wz4 ?_ | refine wz5 ?_ | refine wz6 ?_ | simp -dsimp (maxSteps:=999999) (disch:=omega) only[go_sem,simprocAttr, *,nfaD, u16D, issD, isD])
      refine evB_state bo24 rfl rfl (right1_ok _ n.set.length _ _ rfl) ?_ (fun _ _ h => h.elim)
      rintro d H' ⟨rfl, rfl⟩
      simp -dsimp (maxSteps:=999999) (disch:=omega) only[go_sem,simprocAttr, *]
      refine wz7 (fun hb2 => ?_) (fun hb2 => ?_) <;> try simp -dsimp (maxSteps:=999999) (disch:=omega) only[go_sem,simprocAttr,decide_eq_true_eq,decide_eq_false_iff_not,Bool.not_eq_true,Bool.not_eq_false,Int.not_lt,Int.not_le] at hb2
      repeat' (first | refine wz1 ?_ | refine wz2 ?_ | refine wz3 ?_ | refine wz4 ?_ | refine wz5 ?_ | refine wz6 ?_ | simp -dsimp (maxSteps:=999999) (disch:=omega) only[go_sem,simprocAttr, *])
      try rfl
    · replace ha : G = ((decide (-1 ≤ ru) && decide (ru < 16) && fr.all (isS n.set.length)) && allN (rowOk n) (j + 1) m) := by rw [ha, hi]; simp [hs0]
      rcases (by by_cases h1 : ru < -1; exact .inl h1; by_cases h2 : ru < 16; exact .inr (.inr ⟨h1, h2⟩); exact .inr (.inl ⟨h1, h2⟩) : ru < -1 ∨ (¬ ru < -1 ∧ ¬ ru < 16) ∨ (¬ ru < -1 ∧ ru < 16)) with h1 | ⟨h1, h2⟩ | ⟨h1, h2⟩
      · have hx : G = false := by rw [ha]; simp; omega
        rw [hx]
        clear ha hx
        repeat' (first | refine wz1 ?_ | refine wz2 ?_ | refine wz3 ?_ | refine wz4 ?_ | refine wz5 ?_ | refine wz6 ?_ | simp -dsimp (maxSteps:=999999) (disch:=omega) only[go_sem,simprocAttr, *,nfaD, u16D, issD, isD])
        refine evB_state bo24 rfl rfl (right1_ok _ n.set.length _ _ rfl) ?_ (fun _ _ h => h.elim); rintro d H' ⟨rfl, rfl⟩; simp -dsimp (maxSteps:=999999) (disch:=omega) only[go_sem,simprocAttr, *]
        refine wz7 (fun hb2 => ?_) (fun hb2 => ?_) <;> try simp -dsimp (maxSteps:=999999) (disch:=omega) only[go_sem,simprocAttr,decide_eq_true_eq,decide_eq_false_iff_not,Bool.not_eq_true,Bool.not_eq_false,Int.not_lt,Int.not_le] at hb2
        repeat' (first | refine wz1 ?_ | refine wz2 ?_ | refine wz3 ?_ | refine wz4 ?_ | refine wz5 ?_ | refine wz6 ?_ | simp -dsimp (maxSteps:=999999) (disch:=omega) only[go_sem,simprocAttr, *])
        try rfl
      · have hx : G = false := by rw [ha]; simp; omega
        rw [hx]
        clear ha hx
        repeat' (first | refine wz1 ?_ | refine wz2 ?_ | refine wz3 ?_ | refine wz4 ?_ | refine wz5 ?_ | refine wz6 ?_ | simp -dsimp (maxSteps:=999999) (disch:=omega) only[go_sem,simprocAttr, *,nfaD, u16D, issD, isD])
        refine evB_state bo24 rfl rfl (right1_ok _ n.set.length _ _ rfl) ?_ (fun _ _ h => h.elim); rintro d H' ⟨rfl, rfl⟩; simp -dsimp (maxSteps:=999999) (disch:=omega) only[go_sem,simprocAttr, *]
        refine wz7 (fun hb2 => ?_) (fun hb2 => ?_) <;> try simp -dsimp (maxSteps:=999999) (disch:=omega) only[go_sem,simprocAttr,decide_eq_true_eq,decide_eq_false_iff_not,Bool.not_eq_true,Bool.not_eq_false,Int.not_lt,Int.not_le] at hb2
        repeat' (first | refine wz1 ?_ | refine wz2 ?_ | refine wz3 ?_ | refine wz4 ?_ | refine wz5 ?_ | refine wz6 ?_ | simp -dsimp (maxSteps:=999999) (disch:=omega) only[go_sem,simprocAttr, *])
        try rfl
      · replace ha : G = (fr.all (isS n.set.length) && allN (rowOk n) (j + 1) m) := by rw [ha, show decide (-1 ≤ ru) = true by simp; omega, show decide (ru < 16) = true by simp; omega]; rfl
        repeat' (first | refine wz1 ?_ | refine wz2 ?_ | refine wz3 ?_ | refine wz4 ?_ | refine wz5 ?_ | refine wz6 ?_ | simp -dsimp (maxSteps:=999999) (disch:=omega) only[go_sem,simprocAttr, *,nfaD, u16D, issD, isD])
        refine evB_state bo24 rfl rfl (right1_ok _ n.set.length _ _ rfl) ?_ (fun _ _ h => h.elim); rintro d H' ⟨rfl, rfl⟩; simp -dsimp (maxSteps:=999999) (disch:=omega) only[go_sem,simprocAttr, *]
        refine wz7 (fun hb2 => ?_) (fun hb2 => ?_) <;> try simp -dsimp (maxSteps:=999999) (disch:=omega) only[go_sem,simprocAttr,decide_eq_true_eq,decide_eq_false_iff_not,Bool.not_eq_true,Bool.not_eq_false,Int.not_lt,Int.not_le] at hb2
        repeat' (first | refine wz1 ?_ | refine wz2 ?_ | refine wz3 ?_ | refine wz4 ?_ | refine wz5 ?_ | refine wz6 ?_ | simp -dsimp (maxSteps:=999999) (disch:=omega) only[go_sem,simprocAttr, *,nfaD, u16D, issD, isD])
        have hfl : fr.length ≤ 1000000 := hf fr (List.mem_of_getElem? hf1)
        have hi0 : G = ((fr.drop 0).all (isS n.set.length) && allN (rowOk n) (j + 1) m) := ha
        clear ha
        refine wpB_loop (fun e H => ∃ i : Nat, i ≤ fr.length ∧ H = H0 ∧ e 1 = .ptr 0 0 0 ∧ e 3 = .ptr 1 0 0 ∧ e 4 = .fn 24 [.ptr 1 0 0] ∧ e 39 = .int .i64 n.set.length ∧ e 40 = .int .i64 j ∧ e 79 = isD fr ∧ e 80 = .int .i64 fr.length ∧ e 81 = .int .i64 i ∧ G = ((fr.drop i).all (isS n.set.length) && allN (rowOk n) (j + 1) m)) (fun e H => fr.length - natOf (e 81)) ?_ ?_
        · exact ⟨0, Nat.zero_le _, rfl, gs, gs, gs, gs, gs, by simp -dsimp (maxSteps:=999999) (disch:=omega) only[go_sem,simprocAttr, *,isD], gs, gs, hi0⟩
        · clear hi0
          rintro e' H ⟨i, hi, rfl, e1, e3, e4, e39, e40, e79, e80, e81, ha⟩ R2 hR2
          simp only [H0]
          repeat' (first | refine wz1 ?_ | refine wz2 ?_ | refine wz3 ?_ | refine wz4 ?_ | refine wz5 ?_ | refine wz6 ?_ | simp -dsimp (maxSteps:=999999) (disch:=omega) only[go_sem,simprocAttr, *])
          refine wz7 (fun hb3 => ?_) (fun hb3 => ?_) <;> try simp -dsimp (maxSteps:=999999) (disch:=omega) only[go_sem,simprocAttr,decide_eq_true_eq,decide_eq_false_iff_not,Bool.not_eq_true,Bool.not_eq_false,Int.not_lt,Int.not_le] at hb3
          · rw [allL_drop hb3] at ha
            repeat' (first | refine wz1 ?_ | refine wz2 ?_ | refine wz3 ?_ | refine wz4 ?_ | refine wz5 ?_ | refine wz6 ?_ | simp -dsimp (maxSteps:=999999) (disch:=omega) only[go_sem,simprocAttr, *,isD])
            refine evB_state bo24 rfl rfl (right1_ok _ n.set.length _ _ rfl) ?_ (fun _ _ h => h.elim)
            rintro d H' ⟨rfl, rfl⟩
            cases hq : isS n.set.length fr[i] with
            | true =>
              rw [hq, Bool.true_and] at ha
              simp -dsimp (maxSteps:=999999) (disch:=omega) only[go_sem,simprocAttr, *]
              refine wz7 (fun hb4 => ?_) (fun hb4 => ?_) <;> try simp -dsimp (maxSteps:=999999) (disch:=omega) only[go_sem,simprocAttr,decide_eq_true_eq,decide_eq_false_iff_not,Bool.not_eq_true,Bool.not_eq_false,Int.not_lt,Int.not_le] at hb4
              repeat' (first | refine wz1 ?_ | refine wz2 ?_ | refine wz3 ?_ | refine wz4 ?_ | refine wz5 ?_ | refine wz6 ?_ | simp -dsimp (maxSteps:=999999) (disch:=omega) only[go_sem,simprocAttr, *])
              refine hR2 _ _ ⟨i + 1, by omega, rfl, gs, gs, gs, gs, gs, gs, gs, gs, ha⟩ ?_
              simp -dsimp (maxSteps:=999999) (disch:=omega) only[go_sem,simprocAttr, *,natOf_int]
            | false =>
              rw [hq, Bool.false_and, Bool.false_and] at ha
              rw [ha]
              simp -dsimp (maxSteps:=999999) (disch:=omega) only[go_sem,simprocAttr, *]
              refine wz7 (fun hb4 => ?_) (fun hb4 => ?_) <;> try simp -dsimp (maxSteps:=999999) (disch:=omega) only[go_sem,simprocAttr,decide_eq_true_eq,decide_eq_false_iff_not,Bool.not_eq_true,Bool.not_eq_false,Int.not_lt,Int.not_le] at hb4
              repeat' (first | refine wz1 ?_ | refine wz2 ?_ | refine wz3 ?_ | refine wz4 ?_ | refine wz5 ?_ | refine wz6 ?_ | simp -dsimp (maxSteps:=999999) (disch:=omega) only[go_sem,simprocAttr, *])
              try rfl
          · rw [List.drop_eq_nil_of_le (by omega)] at ha
            have ha' : G = allN (rowOk n) (j + 1) m := by rw [ha]; rfl
            repeat' (first | refine wz1 ?_ | refine wz2 ?_ | refine wz3 ?_ | refine wz4 ?_ | refine wz5 ?_ | refine wz6 ?_ | simp -dsimp (maxSteps:=999999) (disch:=omega) only[go_sem,simprocAttr, *])
            refine hR _ _ ⟨j + 1, m, by omega, rfl, gs, gs, gs, gs, gs, ha'⟩ ?_
            simp -dsimp (maxSteps:=999999) (disch:=omega) only[go_sem,simprocAttr, *,natOf_int]
    · replace ha : G = ((decide (-1 ≤ ru) && decide (ru < 16) && fr.all (isS n.set.length)) && allN (rowOk n) (j + 1) m) := by rw [ha]; simp [hs0]
      rcases (by by_cases h1 : ru < -1; exact .inl h1; by_cases h2 : ru < 16; exact .inr (.inr ⟨h1, h2⟩); exact .inr (.inl ⟨h1, h2⟩) : ru < -1 ∨ (¬ ru < -1 ∧ ¬ ru < 16) ∨ (¬ ru < -1 ∧ ru < 16)) with h1 | ⟨h1, h2⟩ | ⟨h1, h2⟩
      · have hx : G = false := by rw [ha]; simp; omega
        rw [hx]
        clear ha hx
        repeat' (first | refine wz1 ?_ | refine wz2 ?_ | refine wz3 ?_ | refine wz4 ?_ | refine wz5 ?_ | refine wz6 ?_ | simp -dsimp (maxSteps:=999999) (disch:=omega) only[go_sem,simprocAttr, *,nfaD, u16D, issD, isD])
        
        refine wz7 (fun hb2 => ?_) (fun hb2 => ?_) <;> try simp -dsimp (maxSteps:=999999) (disch:=omega) only[go_sem,simprocAttr,decide_eq_true_eq,decide_eq_false_iff_not,Bool.not_eq_true,Bool.not_eq_false,Int.not_lt,Int.not_le] at hb2
        repeat' (first | refine wz1 ?_ | refine wz2 ?_ | refine wz3 ?_ | refine wz4 ?_ | refine wz5 ?_ | refine wz6 ?_ | simp -dsimp (maxSteps:=999999) (disch:=omega) only[go_sem,simprocAttr, *])
        try rfl
      · have hx : G = false := by rw [ha]; simp; omega
        rw [hx]
        clear ha hx
        repeat' (first | refine wz1 ?_ | refine wz2 ?_ | refine wz3 ?_ | refine wz4 ?_ | refine wz5 ?_ | refine wz6 ?_ | simp -dsimp (maxSteps:=999999) (disch:=omega) only[go_sem,simprocAttr, *,nfaD, u16D, issD, isD])
        
        refine wz7 (fun hb2 => ?_) (fun hb2 => ?_) <;> try simp -dsimp (maxSteps:=999999) (disch:=omega) only[go_sem,simprocAttr,decide_eq_true_eq,decide_eq_false_iff_not,Bool.not_eq_true,Bool.not_eq_false,Int.not_lt,Int.not_le] at hb2
        repeat' (first | refine wz1 ?_ | refine wz2 ?_ | refine wz3 ?_ | refine wz4 ?_ | refine wz5 ?_ | refine wz6 ?_ | simp -dsimp (maxSteps:=999999) (disch:=omega) only[go_sem,simprocAttr, *])
        try rfl
      · replace ha : G = (fr.all (isS n.set.length) && allN (rowOk n) (j + 1) m) := by rw [ha, show decide (-1 ≤ ru) = true by simp; omega, show decide (ru < 16) = true by simp; omega]; rfl
        repeat' (first | refine wz1 ?_ | refine wz2 ?_ | refine wz3 ?_ | refine wz4 ?_ | refine wz5 ?_ | refine wz6 ?_ | simp -dsimp (maxSteps:=999999) (disch:=omega) only[go_sem,simprocAttr, *,nfaD, u16D, issD, isD])
        
        refine wz7 (fun hb2 => ?_) (fun hb2 => ?_) <;> try simp -dsimp (maxSteps:=999999) (disch:=omega) only[go_sem,simprocAttr,decide_eq_true_eq,decide_eq_false_iff_not,Bool.not_eq_true,Bool.not_eq_false,Int.not_lt,Int.not_le] at hb2
        repeat' (first | refine wz1 ?_ | refine wz2 ?_ | refine wz3 ?_ | refine wz4 ?_ | refine wz5 ?_ | refine wz6 ?_ | simp -dsimp (maxSteps:=999999) (disch:=omega) only[go_sem,simprocAttr, *,nfaD, u16D, issD, isD])
        have hfl : fr.length ≤ 1000000 := hf fr (List.mem_of_getElem? hf1)
        have hi0 : G = ((fr.drop 0).all (isS n.set.length) && allN (rowOk n) (j + 1) m) := ha
        clear ha
        refine wpB_loop (fun e H => ∃ i : Nat, i ≤ fr.length ∧ H = H0 ∧ e 1 = .ptr 0 0 0 ∧ e 3 = .ptr 1 0 0 ∧ e 4 = .fn 24 [.ptr 1 0 0] ∧ e 39 = .int .i64 n.set.length ∧ e 40 = .int .i64 j ∧ e 79 = isD fr ∧ e 80 = .int .i64 fr.length ∧ e 81 = .int .i64 i ∧ G = ((fr.drop i).all (isS n.set.length) && allN (rowOk n) (j + 1) m)) (fun e H => fr.length - natOf (e 81)) ?_ ?_
        · exact ⟨0, Nat.zero_le _, rfl, gs, gs, gs, gs, gs, by simp -dsimp (maxSteps:=999999) (disch:=omega) only[go_sem,simprocAttr, *,isD], gs, gs, hi0⟩
        · clear hi0
          rintro e' H ⟨i, hi, rfl, e1, e3, e4, e39, e40, e79, e80, e81, ha⟩ R2 hR2
          simp only [H0]
          repeat' (first | refine wz1 ?_ | refine wz2 ?_ | refine wz3 ?_ | refine wz4 ?_ | refine wz5 ?_ | refine wz6 ?_ | simp -dsimp (maxSteps:=999999) (disch:=omega) only[go_sem,simprocAttr, *])
          refine wz7 (fun hb3 => ?_) (fun hb3 => ?_) <;> try simp -dsimp (maxSteps:=999999) (disch:=omega) only[go_sem,simprocAttr,decide_eq_true_eq,decide_eq_false_iff_not,Bool.not_eq_true,Bool.not_eq_false,Int.not_lt,Int.not_le] at hb3
          · rw [allL_drop hb3] at ha
            repeat' (first | refine wz1 ?_ | refine wz2 ?_ | refine wz3 ?_ | refine wz4 ?_ | refine wz5 ?_ | refine wz6 ?_ | simp -dsimp (maxSteps:=999999) (disch:=omega) only[go_sem,simprocAttr, *,isD])
            refine evB_state bo24 rfl rfl (right1_ok _ n.set.length _ _ rfl) ?_ (fun _ _ h => h.elim)
            rintro d H' ⟨rfl, rfl⟩
            cases hq : isS n.set.length fr[i] with
            | true =>
              rw [hq, Bool.true_and] at ha
              simp -dsimp (maxSteps:=999999) (disch:=omega) only[go_sem,simprocAttr, *]
              refine wz7 (fun hb4 => ?_) (fun hb4 => ?_) <;> try simp -dsimp (maxSteps:=999999) (disch:=omega) only[go_sem,simprocAttr,decide_eq_true_eq,decide_eq_false_iff_not,Bool.not_eq_true,Bool.not_eq_false,Int.not_lt,Int.not_le] at hb4
              repeat' (first | refine wz1 ?_ | refine wz2 ?_ | refine wz3 ?_ | refine wz4 ?_ | refine wz5 ?_ | refine wz6 ?_ | simp -dsimp (maxSteps:=999999) (disch:=omega) only[go_sem,simprocAttr, *])
              refine hR2 _ _ ⟨i + 1, by omega, rfl, gs, gs, gs, gs, gs, gs, gs, gs, ha⟩ ?_
              simp -dsimp (maxSteps:=999999) (disch:=omega) only[go_sem,simprocAttr, *,natOf_int]
            | false =>
              rw [hq, Bool.false_and, Bool.false_and] at ha
              rw [ha]
              simp -dsimp (maxSteps:=999999) (disch:=omega) only[go_sem,simprocAttr, *]
              refine wz7 (fun hb4 => ?_) (fun hb4 => ?_) <;> try simp -dsimp (maxSteps:=999999) (disch:=omega) only[go_sem,simprocAttr,decide_eq_true_eq,decide_eq_false_iff_not,Bool.not_eq_true,Bool.not_eq_false,Int.not_lt,Int.not_le] at hb4
              repeat' (first | refine wz1 ?_ | refine wz2 ?_ | refine wz3 ?_ | refine wz4 ?_ | refine wz5 ?_ | refine wz6 ?_ | simp -dsimp (maxSteps:=999999) (disch:=omega) only[go_sem,simprocAttr, *])
              try rfl
          · rw [List.drop_eq_nil_of_le (by omega)] at ha
            have ha' : G = allN (rowOk n) (j + 1) m := by rw [ha]; rfl
            repeat' (first | refine wz1 ?_ | refine wz2 ?_ | refine wz3 ?_ | refine wz4 ?_ | refine wz5 ?_ | refine wz6 ?_ | simp -dsimp (maxSteps:=999999) (disch:=omega) only[go_sem,simprocAttr, *])
            refine hR _ _ ⟨j + 1, m, by omega, rfl, gs, gs, gs, gs, gs, ha'⟩ ?_
            simp -dsimp (maxSteps:=999999) (disch:=omega) only[go_sem,simprocAttr, *,natOf_int]
  · obtain rfl : m = 0 := by omega
    have : G = true := ha
    rw [this]
    repeat' (first | refine wz1 ?_ | refine wz2 ?_ | refine wz3 ?_ | refine wz4 ?_ | refine wz5 ?_ | refine wz6 ?_ | simp -dsimp (maxSteps:=999999) (disch:=omega) only[go_sem,simprocAttr, *])
    try rfl
end Go.Proofs.W
end
/- Machines with free steps: whether one may be, by the document. -/
section
set_option maxHeartbeats 4000000
set_option linter.unusedVariables false
set_option linter.unusedSimpArgs false
namespace Go.Proofs.W
open Go Vm Go.Proofs.Zsb6

theorem rowOk_of {n : Nfa} {j : Nat} {s t ru : Int} {fr : List Int} (hs2 : n.set.getD j 0 = s) (ht2 : n.to.getD j 0 = t) (hr2 : n.rule.getD j 0 = ru) (hf2 : n.free.getD j [] = fr) : rowOk n j = (!(decide (s ≠ 0) && !isS n.set.length t) && decide (-1 ≤ ru) && decide (ru < 16) && fr.all (isS n.set.length)) := by simp only [rowOk, hs2, ht2, hr2, hf2]
def tyN (n : Nfa) : Prop := ∀ x ∈ n.set, 0 ≤ x ∧ x < 65536
end Go.Proofs.W
end
/- Machines with free steps: tables of states, as the document has them. -/
section
set_option maxHeartbeats 4000000
set_option linter.unusedVariables false
set_option linter.unusedSimpArgs false
namespace Go.Proofs.W
open Go Vm Go.Proofs.Zsb6

/-- a table, as data -/
def tabD (k : Nat) (p : Nat → Bool) : List D := (List.range k).map fun i => .bool (p i)
theorem tabD_len {k : Nat} {p : Nat → Bool} : (tabD k p).length = k := by simp [tabD]
theorem tabD_at {k : Nat} {p : Nat → Bool} {i : Nat} (h : i < k) : (tabD k p)[i]? = some (.bool (p i)) := by simp [tabD, h]
theorem tabD_congr {k : Nat} {p q : Nat → Bool} (h : ∀ i, i < k → p i = q i) : tabD k p = tabD k q := by
  refine List.map_congr_left fun i hi => ?_
  rw [h i (by simpa using hi)]
theorem tabD_set {k : Nat} {p : Nat → Bool} {x : Nat} {b : Bool} (h : x < k) : (tabD k p).set x (.bool b) = tabD k fun i => if i = x then b else p i := by
  refine List.ext_getElem? fun i => ?_
  rw [List.getElem?_set]
  by_cases hi : i < k
  · rw [tabD_at hi, tabD_len]
    by_cases hx : x = i
    · subst hx; simp [h, tabD]
    · rw [if_neg hx, tabD_at hi, if_neg (fun e => hx e.symm)]
  · rw [List.getElem?_eq_none (by rw [tabD_len]; omega : (tabD k p).length ≤ i), List.getElem?_eq_none (by rw [tabD_len]; omega)]
    rw [if_neg (by omega)]
theorem strip_bools (l : List Nat) (p : Nat → Bool) : stripL (l.map fun i => D.bool (p i)) = some (l.map fun i => D.bool (p i)) := by
  induction l with
  | nil => rfl
  | cons q r ih => simp [stripL, ih, strip]
theorem strip_tabD (k : Nat) (p : Nat → Bool) : stripL (tabD k p) = some (tabD k p) := strip_bools _ p
theorem head_tabD (k : Nat) (p : Nat → Bool) : headSize 1 (tabD k p) = true := by
  unfold tabD
  cases List.range k <;> rfl
def tD (k : Nat) (p : Nat → Bool) : D := .sl false (tabD k p)
theorem strip_tD (k : Nat) (p : Nat → Bool) : strip (tD k p) = some (tD k p) := by simp [tD, strip, strip_tabD]
theorem mkBools {k : Nat} {H : Heap} (h1 : 1 ≤ k) (h2 : k ≤ 1000000) : makeSliceD Try.prog 65 (.int .i64 k) (.int .i64 k) H = some (.vec H.length 0 k, H ++ [.arr (tabD k fun _ => false)]) := by
  have h0 : List.replicate k (D.bool false) = tabD k fun _ => false := by
    refine List.ext_getElem? fun i => ?_
    by_cases hi : i < k
    · rw [tabD_at hi]; simp [hi]
    · rw [List.getElem?_eq_none (by simpa using hi), List.getElem?_eq_none (by rw [tabD_len]; omega)]
  simp only [makeSliceD, el65, sz4, by4, zr4, Option.bind_some, Int.toNat_natCast, h0]
  rw [if_pos ⟨by omega, by omega, by simp [mostBytes]; omega, by omega, rfl⟩, if_neg (by omega)]
theorem tab_size {H : Heap} {r k : Nat} {p : Nat → Bool} (h : hget H r = .arr (tabD k p)) (hk : 1 ≤ k) : vecSize H r 1 = true := vecSize_of h (fun h0 => by have := congrArg List.length h0; rw [tabD_len] at this; simp at this; omega) (head_tabD k p)
theorem vecO_tab {k : Nat} {p : Nat → Bool} (hk : 1 ≤ k) : vecO (.arr (tabD k p)) 1 = true := vecO_arr (fun h0 => by have := congrArg List.length h0; rw [tabD_len] at this; simp at this; omega) (head_tabD k p)
attribute [go_sem] tabD_len tabD_at tabD_set mkBools vecSize_o vecO_tab
theorem out_tab {H : Heap} {r k : Nat} {p : Nat → Bool} (hg : hget H r = .arr (tabD k p)) (hk : 1 ≤ k) (hr : r < H.length) : outPure H (.vec r 0 k) = some (tD k p) := by
  have h : VecIs (.vec r 0 k) H (tabD k p) := .inr ⟨fun h0 => by have := congrArg List.length h0; rw [tabD_len] at this; simp at this; omega, r, by rw [tabD_len], hg, hr⟩
  exact h.out (strip_tabD k p)
end Go.Proofs.W
end
/- Lists of numbers, for every chapter that does not speak of rules. -/
section
set_option maxHeartbeats 4000000
set_option linter.unusedVariables false
set_option linter.unusedSimpArgs false
namespace Go.Proofs.W
open Go Vm Go.Proofs.Zsb6

theorem ints_ok (a b : List Int) (ha : a.length ≤ 9223372036854775807) : PureF Try.prog A 8 [isD a, isD b] (.bool (a == b)) := by
  refine evF_inB (n := 26) (rs := [.tmp 4]) Try.func8 rfl rfl rfl rfl rfl rfl ?_
  by_cases hab : a.length = b.length
  · have hz : (a == b) = (a.drop 0 == b.drop 0) := rfl
    rw [hz]
    generalize hG : (a.drop 0 == b.drop 0) = G
    clear hz
    repeat' (first | refine wz1 ?_ | refine wz2 ?_ | refine wz3 ?_ | refine wz4 ?_ | refine wz5 ?_ | refine wz6 ?_ | simp -dsimp (maxSteps:=999999) (disch:=omega) only[go_sem,simprocAttr, *,isD])
    refine wz7 (fun hb => ?_) (fun hb => ?_) <;> try simp -dsimp (maxSteps:=999999) (disch:=omega) only[go_sem,simprocAttr,decide_eq_true_eq,decide_eq_false_iff_not,Bool.not_eq_true,Bool.not_eq_false,Int.not_lt,Int.not_le] at hb
    repeat' (first | refine wz1 ?_ | refine wz2 ?_ | refine wz3 ?_ | refine wz4 ?_ | refine wz5 ?_ | refine wz6 ?_ | simp -dsimp (maxSteps:=999999) (disch:=omega) only[go_sem,simprocAttr, *])
    refine wpB_loop (fun e H => ∃ (j : Nat), j ≤ a.length ∧ e 0 = isD a ∧ e 1 = isD b ∧ e 5 = .int .i64 j ∧ G = (a.drop j == b.drop j)) (fun e H => a.length - natOf (e 5)) ?_ ?_
    · exact ⟨0, Nat.zero_le _, by simp -dsimp (maxSteps:=999999) (disch:=omega) only[go_sem,simprocAttr, *,isD], by simp -dsimp (maxSteps:=999999) (disch:=omega) only[go_sem,simprocAttr, *,isD], rfl, hG.symm⟩
    · clear hG
      rintro e H ⟨j, hj, e0, e1, e5, ht⟩ R hR
      repeat' (first | refine wz1 ?_ | refine wz2 ?_ | refine wz3 ?_ | refine wz4 ?_ | refine wz5 ?_ | refine wz6 ?_ | simp -dsimp (maxSteps:=999999) (disch:=omega) only[go_sem,simprocAttr, *,isD])
      refine wz7 (fun hb => ?_) (fun hb => ?_) <;> try simp -dsimp (maxSteps:=999999) (disch:=omega) only[go_sem,simprocAttr,decide_eq_true_eq,decide_eq_false_iff_not,Bool.not_eq_true,Bool.not_eq_false,Int.not_lt,Int.not_le] at hb
      · have hjb : j < b.length := by omega
        have hja : j < a.length := by omega
        rw [List.drop_eq_getElem_cons hja, List.drop_eq_getElem_cons hjb, List.cons_beq_cons] at ht
        by_cases hq : a[j] = b[j]
        · have hq' : (a[j] == b[j]) = true := by simp [hq]
          rw [hq', Bool.true_and] at ht
          clear hq'
          have hbq : (b[j] != b[j]) = false := by simp
          repeat' (first | refine wz1 ?_ | refine wz2 ?_ | refine wz3 ?_ | refine wz4 ?_ | refine wz5 ?_ | refine wz6 ?_ | simp -dsimp (maxSteps:=999999) (disch:=omega) only[go_sem,simprocAttr, *,isD])
          refine wpB_regionXL (prs := []) (by kernel_rfl) rfl (by kernel_rfl) ?_; simp -dsimp (maxSteps:=999999) (disch:=omega) only[go_sem,simprocAttr, *,isD]
          refine wz7 (fun hb2 => ?_) (fun hb2 => ?_) <;> try simp -dsimp (maxSteps:=999999) (disch:=omega) only[go_sem,simprocAttr,decide_eq_true_eq,decide_eq_false_iff_not,Bool.not_eq_true,Bool.not_eq_false,Int.not_lt,Int.not_le] at hb2
          repeat' (first | refine wz1 ?_ | refine wz2 ?_ | refine wz3 ?_ | refine wz4 ?_ | refine wz5 ?_ | refine wz6 ?_ | simp -dsimp (maxSteps:=999999) (disch:=omega) only[go_sem,simprocAttr, *])
          refine hR _ _ ⟨j + 1, by omega, by simp -dsimp (maxSteps:=999999) (disch:=omega) only[go_sem,simprocAttr, *,isD], by simp -dsimp (maxSteps:=999999) (disch:=omega) only[go_sem,simprocAttr, *,isD], gs, ht⟩ ?_
          simp -dsimp (maxSteps:=999999) (disch:=omega) only[go_sem,simprocAttr, *,natOf_int]
        · have hq' : (a[j] == b[j]) = false := by simp [hq]
          rw [hq', Bool.false_and] at ht
          rw [ht]
          clear hq'
          repeat' (first | refine wz1 ?_ | refine wz2 ?_ | refine wz3 ?_ | refine wz4 ?_ | refine wz5 ?_ | refine wz6 ?_ | simp -dsimp (maxSteps:=999999) (disch:=omega) only[go_sem,simprocAttr, *,isD])
          refine wpB_regionXL (prs := []) (by kernel_rfl) rfl (by kernel_rfl) ?_; simp -dsimp (maxSteps:=999999) (disch:=omega) only[go_sem,simprocAttr, *,isD]
          refine wz7 (fun hb2 => ?_) (fun hb2 => ?_) <;> try simp -dsimp (maxSteps:=999999) (disch:=omega) only[go_sem,simprocAttr,decide_eq_true_eq,decide_eq_false_iff_not,Bool.not_eq_true,Bool.not_eq_false,Int.not_lt,Int.not_le] at hb2
          repeat' (first | refine wz1 ?_ | refine wz2 ?_ | refine wz3 ?_ | refine wz4 ?_ | refine wz5 ?_ | refine wz6 ?_ | simp -dsimp (maxSteps:=999999) (disch:=omega) only[go_sem,simprocAttr, *])
          try rfl
      · rw [List.drop_eq_nil_of_le (by omega), List.drop_eq_nil_of_le (by omega)] at ht
        have : G = true := ht
        rw [this]
        repeat' (first | refine wz1 ?_ | refine wz2 ?_ | refine wz3 ?_ | refine wz4 ?_ | refine wz5 ?_ | refine wz6 ?_ | simp -dsimp (maxSteps:=999999) (disch:=omega) only[go_sem,simprocAttr, *])
        try rfl
  · have hz : (a == b) = false := by simp; rintro rfl; exact hab rfl
    rw [hz]
    repeat' (first | refine wz1 ?_ | refine wz2 ?_ | refine wz3 ?_ | refine wz4 ?_ | refine wz5 ?_ | refine wz6 ?_ | simp -dsimp (maxSteps:=999999) (disch:=omega) only[go_sem,simprocAttr, *,isD])
    refine wz7 (fun hb => ?_) (fun hb => ?_) <;> try simp -dsimp (maxSteps:=999999) (disch:=omega) only[go_sem,simprocAttr,decide_eq_true_eq,decide_eq_false_iff_not,Bool.not_eq_true,Bool.not_eq_false,Int.not_lt,Int.not_le] at hb
    repeat' (first | refine wz1 ?_ | refine wz2 ?_ | refine wz3 ?_ | refine wz4 ?_ | refine wz5 ?_ | refine wz6 ?_ | simp -dsimp (maxSteps:=999999) (disch:=omega) only[go_sem,simprocAttr, *])
    try rfl
end Go.Proofs.W
end
/- In this chapter: lists of numbers alone. -/
section
set_option maxHeartbeats 4000000
set_option linter.unusedVariables false
set_option linter.unusedSimpArgs false
namespace Go.Proofs.W
end Go.Proofs.W
end
/- Expressions: whether they may be; whether they have the empty word. -/
section
set_option maxHeartbeats 4000000
set_option linter.unusedVariables false
set_option linter.unusedSimpArgs false
namespace Go.Proofs.W
open Go Vm Go.Proofs.Zsb6

mutual
def sizeR : Rx → Nat
  | .mk _ _ l => sizeL l + 1
def sizeL : List Rx → Nat
  | [] => 0
  | r :: l => sizeR r + sizeL l
end
theorem sizeR_pos (r : Rx) : 0 < sizeR r := by cases r; simp [sizeR]
mutual
theorem cnt_eq : ∀ (r : Rx) (d : Nat) (left : Int), 0 ≤ left → ((cntR r d left).1 = true ↔ (sizeR r : Int) ≤ left ∧ depth r ≤ d ∧ shapesR r = true) ∧ ((cntR r d left).1 = true → (cntR r d left).2 = left - sizeR r)
  | .mk k s l, d, left, h => by
    simp only [cntR, sizeR, depth, shapesR, Bool.and_eq_true]
    by_cases h1 : left - 1 < 0
    · rw [if_pos (.inl h1)]
      simp only [Bool.false_eq_true, false_iff, false_implies, and_true, not_and]
      omega
    by_cases h2 : d = 0
    · rw [if_pos (.inr (.inl h2))]
      simp only [Bool.false_eq_true, false_iff, false_implies, and_true, not_and]
      omega
    by_cases h3 : shape1 k s l.length = false
    · rw [if_pos (.inr (.inr h3))]
      simp [h3]
    · rw [if_neg (by simp [h1, h2, h3])]
      have := cntL_eq l (d - 1) (left - 1) (by omega)
      simp only [Bool.not_eq_false] at h3
      simp only [h3, true_and]
      refine ⟨this.1.trans ⟨fun ⟨a, b, c⟩ => ⟨by omega, by omega, c⟩, fun ⟨a, b, c⟩ => ⟨by omega, by omega, c⟩⟩, fun h => ?_⟩
      rw [this.2 h]; omega
theorem cntL_eq : ∀ (l : List Rx) (d : Nat) (left : Int), 0 ≤ left → ((cntL l d left).1 = true ↔ (sizeL l : Int) ≤ left ∧ depthL l ≤ d ∧ shapesL l = true) ∧ ((cntL l d left).1 = true → (cntL l d left).2 = left - sizeL l)
  | [], d, left, h => by simp [cntL, sizeL, depthL, shapesL, h]
  | r :: l, d, left, h => by
    simp only [cntL, sizeL, depthL, shapesL, Bool.and_eq_true]
    have h1 := cnt_eq r d left h
    cases hc : (cntR r d left).1 with
    | false =>
      rw [hc] at h1
      simp only [Bool.false_eq_true, false_iff, false_implies, and_true, if_false, not_and] at h1 ⊢
      intro ha hb hs
      exact absurd hs (h1 (by omega) (by omega))
    | true =>
      rw [hc] at h1
      simp only [true_iff, if_true, forall_const] at h1 ⊢
      have h2 := cntL_eq l d (cntR r d left).2 (by omega)
      rw [h1.2] at h2 ⊢
      refine ⟨h2.1.trans ⟨fun ⟨a, b, c⟩ => ⟨by omega, by omega, h1.1.2.2, c⟩, fun ⟨a, b, c⟩ => ⟨by omega, by omega, c.2⟩⟩, fun h => ?_⟩
      rw [h2.2 h]; omega
end
mutual
theorem nodes_size : ∀ r : Rx, nodesR r ≤ 100 ↔ sizeR r ≤ 100
  | .mk k s l => by
    simp only [nodesR, sizeR]
    have := nodesL_size l 1 (by omega)
    omega
theorem nodesL_size : ∀ (l : List Rx) (n : Nat), 1 ≤ n → (nodesL n l ≤ 100 ↔ n + sizeL l ≤ 100)
  | [], n, h => by simp [nodesL, sizeL]
  | r :: l, n, h => by
    simp only [nodesL, sizeL]
    have h1 := nodes_size r
    have hp := sizeR_pos r
    split
    · have h2 := nodesL_size l (n + nodesR r) (by omega)
      rw [h2]
      have h3 := nodes_small r
      omega
    · omega
theorem nodes_small : ∀ r : Rx, (sizeR r ≤ 100 → nodesR r = sizeR r) ∧ (100 < sizeR r → 100 < nodesR r)
  | .mk k s l => by
    simp only [nodesR, sizeR]
    have := nodesL_small l 1 (by omega)
    exact ⟨fun h => by have := this.1 (by omega); omega, fun h => by have := this.2 (by omega); omega⟩
theorem nodesL_small : ∀ (l : List Rx) (n : Nat), 1 ≤ n → (n + sizeL l ≤ 100 → nodesL n l = n + sizeL l) ∧ (100 < n + sizeL l → 100 < nodesL n l)
  | [], n, h => by simp [nodesL, sizeL]
  | r :: l, n, h => by
    simp only [nodesL, sizeL]
    have h1 := nodes_small r
    have hp := sizeR_pos r
    split
    · rename_i hn
      have h2 := nodesL_small l (n + nodesR r) (by omega)
      refine ⟨fun ha => ?_, fun ha => ?_⟩
      · have e1 := h1.1 (by omega)
        rw [e1] at h2 ⊢
        have := h2.1 (by omega); omega
      · rcases Nat.lt_or_ge 100 (sizeR r) with hb | hb
        · have := h1.2 hb
          exact h2.2 (by omega)
        · have e1 := h1.1 hb
          rw [e1] at h2 ⊢
          exact h2.2 (by omega)
    · exact ⟨fun ha => by omega, fun ha => by omega⟩
end
theorem cnt_right (r : Rx) : (cntR r 12 100).1 = rightR r := by
  have h := (cnt_eq r 12 100 (by omega)).1
  have hn := nodes_size r
  unfold rightR
  rw [Bool.eq_iff_iff, h]
  simp only [Bool.and_eq_true, decide_eq_true_eq]
  constructor
  · rintro ⟨a, b, c⟩; exact ⟨⟨b, by omega⟩, c⟩
  · rintro ⟨⟨a, b⟩, c⟩; exact ⟨by omega, a, c⟩
theorem rightP_ok (r : Rx) (hr : okR r) : PureF Try.prog A 16 [rxD r] (.bool (rightR r)) := by
  rw [← cnt_right]
  have hc := count_ok 12 (by omega) r hr 100 (by omega) (by omega)
  have c1 := rx_cells r
  have c2 := rx_aggQ r
  have c3 := rx_noTup r
  refine evF_inB (n := 6) (rs := [.tmp 2]) Try.func16 rfl rfl rfl rfl rfl rfl ?_
  generalize rxD r = d at *
  have hc1 : EvF Try.prog A 27 [d, .int .i64 12, .ptr 1 0 0] [Ob.arr [d], Ob.arr [.int .i64 100]] (fun x H' => x = .bool (cntR r 12 100).1 ∧ PtrTo [Ob.arr [d], Ob.arr [.int .i64 100]] H' 1 (.int .i64 (cntR r 12 100).2)) (fun _ _ => False) := hc _ 1 rfl
  repeat' (first | refine wz1 ?_ | refine wz2 ?_ | refine wz3 ?_ | refine wz4 ?_ | refine wz5 ?_ | refine wz6 ?_ | simp -dsimp (maxSteps:=999999) (disch:=omega) only[go_sem,simprocAttr, *])
  refine evB_state bo27 rfl rfl hc1 ?_ (fun _ _ h => h.elim)
  rintro _ H' ⟨rfl, hP⟩
  simp -dsimp (maxSteps:=999999) (disch:=omega) only[go_sem,simprocAttr, *]
  repeat' (first | refine wz1 ?_ | refine wz2 ?_ | refine wz3 ?_ | refine wz4 ?_ | refine wz5 ?_ | refine wz6 ?_ | simp -dsimp (maxSteps:=999999) (disch:=omega) only[go_sem,simprocAttr, *])
def emptyR : Rx → Bool
  | .mk k _ l => if k = 1 then false else if k = 2 then emptyAll l else if k = 3 then emptyAny l else true
where
  emptyAll : List Rx → Bool
  | [] => true
  | r :: l => emptyR r && emptyAll l
  emptyAny : List Rx → Bool
  | [] => false
  | r :: l => emptyR r || emptyAny l
end Go.Proofs.W
end
/- In this chapter: nothing more of empty words. -/
section
set_option maxHeartbeats 4000000
set_option linter.unusedVariables false
set_option linter.unusedSimpArgs false
namespace Go.Proofs.W
end Go.Proofs.W
end
/- Expressions: where a word of one may end. -/
section
set_option maxHeartbeats 4000000
set_option linter.unusedVariables false
set_option linter.unusedSimpArgs false
namespace Go.Proofs.W
open Go Vm Go.Proofs.Zsb6
set_option maxHeartbeats 40000000

def bsD (l : List Bool) : List D := l.map .bool
def bitZ (s c : Int) : Bool := IntKind.u16.wrap (BitVec.ofInt IntKind.u16.bits (s.fdiv (2 ^ (min c.toNat IntKind.u16.bits))) &&& BitVec.ofInt IntKind.u16.bits 1).toNat == 1
def inB (s c : Int) : Bool := decide (0 ≤ c) && decide (c < 16) && bitZ s c
def stepB (s : Int) (w : List Int) (fl : List Bool) : List Bool := false :: List.zipWith (fun b c => b && inB s c) fl w
def orB (a b : List Bool) : List Bool := List.zipWith (· || ·) a b
/-- as often as one likes, as long as there is more -/
def roundsB (f : List Bool → List Bool) (one : Bool) : Nat → List Bool → List Bool
  | 0, l => l
  | n + 1, l => if one = true ∨ orB l (f l) = l then orB l (f l) else roundsB f one n (orB l (f l))
mutual
def endsR (w : List Int) : Rx → List Bool → List Bool
  | .mk k s l, fl => if k = 0 then fl else if k = 1 then stepB s w fl else if k = 2 then endsCat w l fl else if k = 3 then endsAlt w l fl (List.replicate (w.length + 1) false)
      else if k = 4 ∨ k = 5 then roundsB (endsOne w l) (k == 5) (w.length + 1) fl else List.replicate (w.length + 1) false
def endsCat (w : List Int) : List Rx → List Bool → List Bool
  | [], fl => fl
  | r :: l, fl => endsCat w l (endsR w r fl)
def endsAlt (w : List Int) : List Rx → List Bool → List Bool → List Bool
  | [], _, acc => acc
  | r :: l, fl, acc => endsAlt w l fl (orB acc (endsR w r fl))
def endsOne (w : List Int) : List Rx → List Bool → List Bool
  | [], fl => fl
  | r :: _, fl => endsR w r fl
end
theorem orB_len {a b : List Bool} {n : Nat} (h : a.length = n) (g : b.length = n) : (orB a b).length = n := by simp [orB, h, g]
theorem rounds_len {f : List Bool → List Bool} {n : Nat} (hf : ∀ l, l.length = n → (f l).length = n) {one : Bool} : ∀ (m : Nat) (l : List Bool), l.length = n → (roundsB f one m l).length = n
  | 0, l, h => h
  | m + 1, l, h => by
    simp only [roundsB]
    have := orB_len h (hf l h)
    split
    · exact this
    · exact rounds_len hf m _ this
mutual
theorem ends_len (w : List Int) : ∀ (r : Rx) (fl : List Bool), fl.length = w.length + 1 → (endsR w r fl).length = w.length + 1
  | .mk k s l, fl, h => by
    simp only [endsR]
    split
    · exact h
    split
    · simp [stepB, h]
    split
    · exact endsCat_len w l fl h
    split
    · exact endsAlt_len w l fl _ h (by simp)
    split
    · exact rounds_len (fun x hx => endsOne_len w l x hx) _ fl h
    · simp
theorem endsCat_len (w : List Int) : ∀ (l : List Rx) (fl : List Bool), fl.length = w.length + 1 → (endsCat w l fl).length = w.length + 1
  | [], fl, h => h
  | r :: l, fl, h => endsCat_len w l _ (ends_len w r fl h)
theorem endsAlt_len (w : List Int) : ∀ (l : List Rx) (fl acc : List Bool), fl.length = w.length + 1 → acc.length = w.length + 1 → (endsAlt w l fl acc).length = w.length + 1
  | [], fl, acc, h, g => g
  | r :: l, fl, acc, h, g => endsAlt_len w l fl _ h (orB_len g (ends_len w r fl h))
theorem endsOne_len (w : List Int) : ∀ (l : List Rx) (fl : List Bool), fl.length = w.length + 1 → (endsOne w l fl).length = w.length + 1
  | [], fl, h => h
  | r :: _, fl, h => ends_len w r fl h
end
theorem vs_bools {H : Heap} {q : Nat} {l : List Bool} (h : hget H q = .arr (bsD l)) (hl : 0 < l.length) : vecSize H q 1 = true := by
  refine vecSize_of h ?_ ?_
  · cases l with
    | nil => simp at hl
    | cons b l => simp [bsD]
  · cases l <;> rfl
theorem bs_at {l : List Bool} {i : Nat} (h : i < l.length) : (bsD l)[i]? = some (.bool l[i]) := by simp [bsD, h]
theorem bs_set {l : List Bool} {i : Nat} {b : Bool} : (bsD l).set i (.bool b) = bsD (l.set i b) := by simp [bsD, List.map_set]
theorem bs_len {l : List Bool} : (bsD l).length = l.length := by simp [bsD]
theorem mk_bools {n : Int} {H : Heap} (h0 : 0 < n) (h1 : n ≤ 1000000) : makeSliceD Try.prog 65 (.int .i64 n) (.int .i64 n) H = some (.vec H.length 0 n.toNat, H ++ [Ob.arr (bsD (List.replicate n.toNat false))]) := by
  simp only [makeSliceD, el65, sz65, sz4, by4, zr4, Option.bind_some]
  have hcond : 0 ≤ n ∧ n ≤ n ∧ n.toNat * 1 ≤ mostBytes ∧ n < 2 ^ 62 ∧ (D.bool false).cells.length = 1 := ⟨by omega, Int.le_refl _, by simp only [mostBytes]; omega, by omega, rfl⟩
  rw [if_pos hcond, if_neg (by omega)]
  simp [bsD]
/-- steps as far as a place -/
def stepL (s : Int) (w : List Int) (fl : List Bool) (j : Nat) : List Bool := (stepB s w fl).take (j + 1) ++ List.replicate (w.length - j) false
theorem stepL_len {s : Int} {w : List Int} {fl : List Bool} (h : fl.length = w.length + 1) (j : Nat) (hj : j ≤ w.length) : (stepL s w fl j).length = w.length + 1 := by simp [stepL, stepB, h]; omega
theorem stepL_zero {s : Int} {w : List Int} {fl : List Bool} (h : fl.length = w.length + 1) : stepL s w fl 0 = List.replicate (w.length + 1) false := by simp [stepL, stepB, List.replicate_succ]
theorem stepL_end {s : Int} {w : List Int} {fl : List Bool} (h : fl.length = w.length + 1) : stepL s w fl w.length = stepB s w fl := by
  simp only [stepL, Nat.sub_self, List.replicate_zero, List.append_nil]
  exact List.take_of_length_le (by simp [stepB, h])
theorem stepL_next {s : Int} {w : List Int} {fl : List Bool} (h : fl.length = w.length + 1) {j : Nat} (hj : j < w.length) : stepL s w fl (j + 1) = (stepL s w fl j).set (j + 1) (fl[j] && inB s w[j]) := by
  have hS : (stepB s w fl)[j + 1]? = some (fl[j] && inB s w[j]) := by
    simp only [stepB, List.getElem?_cons_succ]
    rw [List.getElem?_zipWith, List.getElem?_eq_getElem (by omega), List.getElem?_eq_getElem hj]
  have hlen : ((stepB s w fl).take (j + 1)).length = j + 1 := by simp [stepB, h]; omega
  unfold stepL
  rw [List.take_add_one (i := j + 1), hS, show w.length - j = (w.length - (j + 1)) + 1 by omega, List.replicate_succ, List.set_append_right _ _ (by omega), hlen, Nat.sub_self]
  simp
theorem stepL_same {s : Int} {w : List Int} {fl : List Bool} (h : fl.length = w.length + 1) {j : Nat} (hj : j < w.length) : (stepL s w fl j).set (j + 1) false = stepL s w fl j := by
  have hlen : ((stepB s w fl).take (j + 1)).length = j + 1 := by simp [stepB, h]; omega
  unfold stepL
  rw [show w.length - j = (w.length - (j + 1)) + 1 by omega, List.replicate_succ, List.set_append_right _ _ (by omega), hlen, Nat.sub_self]
  simp
/-- lists joined as far as a place -/
def orL (a x : List Bool) (i : Nat) : List Bool := (orB a x).take i ++ a.drop i
theorem orL_zero {a x : List Bool} : orL a x 0 = a := by simp [orL]
theorem orL_end {a x : List Bool} {n : Nat} (h : a.length = n) (g : x.length = n) : orL a x n = orB a x := by
  simp only [orL]
  rw [List.take_of_length_le (by rw [orB_len h g]; omega), List.drop_eq_nil_of_le (by omega), List.append_nil]
theorem orL_len {a x : List Bool} {n i : Nat} (h : a.length = n) (g : x.length = n) (hi : i ≤ n) : (orL a x i).length = n := by
  simp [orL, orB_len h g, h]; omega
theorem orL_at {a x : List Bool} {n i : Nat} (h : a.length = n) (g : x.length = n) (hi : i < n) : (orL a x i)[i]? = some a[i] := by
  have hl : ((orB a x).take i).length = i := by simp [orB_len h g]; omega
  simp only [orL]
  rw [List.getElem?_append_right (by omega), hl, Nat.sub_self, List.getElem?_drop, Nat.add_zero, List.getElem?_eq_getElem (by omega)]
theorem orL_next {a x : List Bool} {n i : Nat} (h : a.length = n) (g : x.length = n) (hi : i < n) : orL a x (i + 1) = (orL a x i).set i (a[i] || x[i]) := by
  have hl : ((orB a x).take i).length = i := by simp [orB_len h g]; omega
  have hx : (orB a x)[i]? = some (a[i] || x[i]) := by
    simp only [orB]
    rw [List.getElem?_zipWith, List.getElem?_eq_getElem (by omega), List.getElem?_eq_getElem (by omega)]
  simp only [orL]
  rw [List.take_add_one, hx, List.set_append_right _ _ (by omega), hl, Nat.sub_self, List.drop_eq_getElem_cons (show i < a.length by omega), List.set_cons_zero]
  simp only [Option.toList_some, List.append_assoc, List.cons_append, List.nil_append]
/-- is there more, as far as a place? -/
def moreL (a x : List Bool) : Nat → Bool
  | 0 => false
  | i + 1 => moreL a x i || (x.getD i false && !a.getD i false)
theorem more_same {a x : List Bool} {n : Nat} (h : a.length = n) (g : x.length = n) : moreL a x n = false ↔ orB a x = a := by
  have key : ∀ i, moreL a x i = false ↔ ∀ j, j < i → (x.getD j false && !a.getD j false) = false := by
    intro i
    induction i with
    | zero => simp [moreL]
    | succ i ih =>
      simp only [moreL, Bool.or_eq_false_iff, ih]
      constructor
      · rintro ⟨h1, h2⟩ j hj
        rcases Nat.lt_succ_iff_lt_or_eq.1 hj with hj | rfl
        · exact h1 j hj
        · exact h2
      · exact fun h => ⟨fun j hj => h j (by omega), h i (by omega)⟩
  rw [key]
  constructor
  · intro hh
    apply List.ext_getElem (by rw [orB_len h g, h])
    intro j h1 h2
    have := hh j (by omega)
    simp only [List.getD, List.getElem?_eq_getElem (show j < x.length by omega), List.getElem?_eq_getElem h2, Option.getD_some] at this
    simp only [orB, List.getElem_zipWith]
    cases hx : x[j] <;> cases ha : a[j] <;> simp_all
  · intro hh j hj
    have h2 : (orB a x)[j]'(by rw [orB_len h g]; omega) = a[j] := by simp only [hh]
    simp only [orB, List.getElem_zipWith] at h2
    simp only [List.getD, List.getElem?_eq_getElem (show j < x.length by omega), List.getElem?_eq_getElem (show j < a.length by omega), Option.getD_some]
    cases hx : x[j] <;> cases ha : a[j] <;> simp_all
/-- what a call of Ends leaves -/
def EndsQ (H : Heap) (n : Nat) (l : List Bool) (d : D) (H' : Heap) : Prop := Same H.length H H' ∧ ∃ p, H.length ≤ p ∧ d = .vec p 0 n ∧ hget H' p = .arr (bsD l)
theorem step_len {s : Int} {w : List Int} {fl : List Bool} (h : fl.length = w.length + 1) : (stepB s w fl).length = w.length + 1 := by simp [stepB, h]
structure St (H0 H : Heap) (m q : Nat) (R : D) (fl : List Bool) : Prop where
  same : Same m H0 H
  rx : hget H m = .arr [R]
  fr : hget H q = .arr (bsD fl)
  lt : q < m
theorem St.set {H0 H : Heap} {m q p : Nat} {R : D} {fl : List Bool} {ob : Ob} (h : St H0 H m q R fl) (hp : m < p) : St H0 (H.set p ob) m q R fl :=
  ⟨h.same.trans (Same.set (by omega)), by rw [hget_set_ne (by omega)]; exact h.rx, by have := h.lt; rw [hget_set_ne (by omega)]; exact h.fr, h.lt⟩
theorem St.call {H0 H H' : Heap} {m q : Nat} {R : D} {fl : List Bool} (h : St H0 H m q R fl) (g : Same H.length H H') : St H0 H' m q R fl := by
  have h1 := lt_of_hget h.rx
  have h2 := h.lt
  exact ⟨h.same.trans (g.le (by omega)), by rw [g.2 m h1]; exact h.rx, by rw [g.2 q (by omega)]; exact h.fr, h.lt⟩
theorem take_set {α : Type} {L F : List α} {j : Nat} {x : α} (hL : j < L.length) (h : L.take j = F.take j) (hx : F[j]? = some x) : (L.set j x).take (j + 1) = F.take (j + 1) := by
  rw [List.take_add_one, List.take_add_one, List.take_set, h, hx]
  have : (L.set j x)[j]? = some x := by simp [hL]
  rw [this]
  rw [List.set_eq_of_length_le (by simp; omega)]
end Go.Proofs.W
end
/- Expressions: whether they have a word. -/
section
set_option maxHeartbeats 4000000
set_option linter.unusedVariables false
set_option linter.unusedSimpArgs false
namespace Go.Proofs.W
open Go Vm Go.Proofs.Zsb6

mutual
theorem ends_nil : ∀ (r : Rx) (hs : shapesR r = true) (b : Bool), endsR [] r [b] = [b && emptyR r]
  | .mk k s l, hs, b => by
    simp only [shapesR, Bool.and_eq_true] at hs
    have hs1 := hs.1
    simp only [endsR, emptyR]
    by_cases h0 : k = 0
    · subst h0; simp
    rw [if_neg h0]
    by_cases h1 : k = 1
    · subst h1; simp [stepB]
    rw [if_neg h1, if_neg h1]
    by_cases h2 : k = 2
    · subst h2; simp only [if_true]; exact endsCat_nil l hs.2 b
    rw [if_neg h2, if_neg h2]
    by_cases h3 : k = 3
    · subst h3; simp only [if_true, List.length_nil, Nat.zero_add, List.replicate_one]; rw [endsAlt_nil l hs.2 b false]; simp
    rw [if_neg h3, if_neg h3]
    by_cases h4 : k = 4 ∨ k = 5
    · rw [if_pos h4]
      simp only [Bool.and_true, List.length_nil, Nat.zero_add, roundsB]
      have := endsOne_nil l hs.2 b
      obtain ⟨c, hc⟩ := this
      rw [hc]
      have : orB [b] [b && c] = [b] := by cases b <;> simp [orB]
      rw [this]; simp
    · simp [shape1, h0, h1, h2, h3, h4] at hs1
theorem endsCat_nil : ∀ (l : List Rx) (hs : shapesL l = true) (b : Bool), endsCat [] l [b] = [b && emptyR.emptyAll l]
  | [], hs, b => by simp [endsCat, emptyR.emptyAll]
  | r :: l, hs, b => by
    simp only [shapesL, Bool.and_eq_true] at hs
    simp only [endsCat, emptyR.emptyAll, ends_nil r hs.1, endsCat_nil l hs.2, Bool.and_assoc]
theorem endsAlt_nil : ∀ (l : List Rx) (hs : shapesL l = true) (b a : Bool), endsAlt [] l [b] [a] = [a || (b && emptyR.emptyAny l)]
  | [], hs, b, a => by simp [endsAlt, emptyR.emptyAny]
  | r :: l, hs, b, a => by
    simp only [shapesL, Bool.and_eq_true] at hs
    simp only [endsAlt, emptyR.emptyAny, ends_nil r hs.1, orB, List.zipWith_cons_cons, List.zipWith_nil_left, endsAlt_nil l hs.2, Bool.and_or_distrib_left, Bool.or_assoc]
theorem endsOne_nil : ∀ (l : List Rx) (hs : shapesL l = true) (b : Bool), ∃ c, endsOne [] l [b] = [b && c]
  | [], hs, b => ⟨true, by simp [endsOne]⟩
  | r :: l, hs, b => by
    simp only [shapesL, Bool.and_eq_true] at hs
    exact ⟨_, ends_nil r hs.1 b⟩
end
def startB (n : Nat) : List Bool := true :: List.replicate n false
def hasR (w : List Int) (r : Rx) : Bool := (endsR w r (startB w.length)).getD w.length false
theorem has_nil (r : Rx) (hs : shapesR r = true) : hasR [] r = emptyR r := by
  simp only [hasR, startB, List.length_nil, List.replicate_zero, ends_nil r hs, Bool.true_and]; rfl
theorem start_len (n : Nat) : (startB n).length = n + 1 := by simp [startB]
end Go.Proofs.W
end
/- Machines with free steps: the document's lists, steps and ends. -/
section
set_option maxHeartbeats 4000000
set_option linter.unusedVariables false
set_option linter.unusedSimpArgs false
namespace Go.Proofs.W
open Go Vm Go.Proofs.Zsb6

/-- the numbers of a table -/
def listZ (k : Nat) (p : Nat → Bool) : List Int := ((List.range k).filter p).map fun (i : Nat) => (i : Int)
theorem listZ_succ {k : Nat} {p : Nat → Bool} : listZ (k + 1) p = listZ k p ++ if p k then [(k : Int)] else [] := by
  unfold listZ
  rw [List.range_succ, List.filter_append, List.map_append]
  congr 1
  by_cases h : p k = true <;> simp [h]
theorem listZ_len (k : Nat) (p : Nat → Bool) : (listZ k p).length ≤ k := by
  have := List.length_filter_le p (List.range k)
  simp [listZ] at this ⊢; exact this
theorem mem_listZ {k : Nat} {p : Nat → Bool} {s : Int} : s ∈ listZ k p ↔ ∃ i, i < k ∧ p i = true ∧ s = i := by
  simp only [listZ, List.mem_map, List.mem_filter, List.mem_range]
  exact ⟨fun ⟨a, ⟨h1, h2⟩, h3⟩ => ⟨a, h1, h2, h3.symm⟩, fun ⟨a, h1, h2, h3⟩ => ⟨a, ⟨h1, h2⟩, h3.symm⟩⟩
/-- a state has a step by a category -/
def hit (n : Nfa) (c : Int) (i : Nat) : Bool := inB (n.set.getD i 0) c
/-- those to which states ahead of one step -/
def stepTo (n : Nfa) (c : Int) (p : Nat → Bool) (j t : Nat) : Bool := (List.range j).any fun i => p i && hit n c i && decide (n.to.getD i 0 = (t : Int))
theorem stepTo_succ {n : Nfa} {c : Int} {p : Nat → Bool} {j t : Nat} : stepTo n c p (j + 1) t = (stepTo n c p j t || (p j && hit n c j && decide (n.to.getD j 0 = (t : Int)))) := by
  simp only [stepTo, List.range_succ, List.any_append, List.any_cons, List.any_nil, Bool.or_false]
theorem bitZ_zero (c : Int) : bitZ 0 c = false := by
  simp [bitZ, IntKind.wrap, IntKind.bits, IntKind.signed]
theorem right_row {n : Nfa} (h : rightN n = true) : 1 ≤ n.set.length ∧ n.set.length ≤ 3300 ∧ n.free.length = n.set.length ∧ n.to.length = n.set.length ∧ n.rule.length = n.set.length ∧ ∀ i, i < n.set.length → rowOk n i = true := by
  simp only [rightN, Bool.and_eq_true, decide_eq_true_eq, allN_iff] at h
  exact ⟨h.1.1, h.1.2.1, h.1.2.2.1, h.1.2.2.2.1, h.1.2.2.2.2, fun i hi => h.2 i (by omega) (by omega)⟩
theorem right_hit {n : Nfa} (h : rightN n = true) {c : Int} {i : Nat} (hi : i < n.set.length) (hh : hit n c i = true) : 0 ≤ n.to.getD i 0 ∧ n.to.getD i 0 < n.set.length := by
  have := (right_row h).2.2.2.2.2 i hi
  simp only [rowOk, Bool.and_eq_true, Bool.not_eq_true', Bool.and_eq_false_iff, decide_eq_false_iff_not] at this
  rcases this.1.1.1 with h1 | h1
  · have h1 : n.set.getD i 0 = 0 := by omega
    rw [hit, h1] at hh
    simp [inB, bitZ_zero] at hh
  · exact isS_iff.1 (by simpa using h1)
end Go.Proofs.W
end
/- Machines with free steps: the document's steps and ends, walked. -/
section
set_option maxHeartbeats 4000000
set_option linter.unusedVariables false
set_option linter.unusedSimpArgs false
namespace Go.Proofs.W
open Go Vm Go.Proofs.Zsb6

theorem conv_u64 (c : Int) (H : Heap) : convD Try.prog 3 69 (.int .i64 c) H = some (.int .u64 (IntKind.u64.wrap c), H) := by
  simp only [convD_eq, un3, un69]; rfl
theorem hit_bit {n : Nfa} {c s : Int} {j : Nat} (h0 : 0 ≤ c) (h1 : c < 16) (hs : n.set.getD j 0 = s) : hit n c j = bitZ s c := by
  simp only [hit, inB, h0, h1, hs, decide_true, Bool.true_and]
/-- the least of those that aren't below nothing; -1: none is -/
def bestFrom (o : Int) (l : List Int) : Int := l.foldl (fun o r => if 0 ≤ r ∧ (o < 0 ∨ r < o) then r else o) o
theorem bestFrom_cons {o r : Int} {l : List Int} : bestFrom o (r :: l) = bestFrom (if 0 ≤ r ∧ (o < 0 ∨ r < o) then r else o) l := rfl
theorem bestFrom_spec : ∀ (l : List Int) (o : Int), -1 ≤ o → -1 ≤ bestFrom o l ∧ (∀ r ∈ l, 0 ≤ r → 0 ≤ bestFrom o l ∧ bestFrom o l ≤ r) ∧ (0 ≤ o → 0 ≤ bestFrom o l ∧ bestFrom o l ≤ o) ∧ (bestFrom o l = o ∨ bestFrom o l ∈ l)
  | [], o, ho => ⟨ho, (fun r h => by cases h), fun h => ⟨h, Int.le_refl _⟩, .inl rfl⟩
  | r :: l, o, ho => by
    rw [bestFrom_cons]
    by_cases hc : 0 ≤ r ∧ (o < 0 ∨ r < o)
    · rw [if_pos hc]
      obtain ⟨h1, h2, h3, h4⟩ := bestFrom_spec l r (by omega)
      have h3' := h3 hc.1
      refine ⟨h1, fun x hx h0 => ?_, fun h0 => by omega, ?_⟩
      · rcases List.mem_cons.1 hx with rfl | hx
        · exact h3'
        · exact h2 x hx h0
      · rcases h4 with h4 | h4
        · exact .inr (by rw [h4]; simp)
        · exact .inr (by simp [h4])
    · rw [if_neg hc]
      obtain ⟨h1, h2, h3, h4⟩ := bestFrom_spec l o ho
      refine ⟨h1, fun x hx h0 => ?_, h3, ?_⟩
      · rcases List.mem_cons.1 hx with rfl | hx
        · have := h3 (by omega)
          omega
        · exact h2 x hx h0
      · rcases h4 with h4 | h4
        · exact .inl h4
        · exact .inr (by simp [h4])
theorem best_eq {l : List Int} {v : Int} (h : (v = -1 ∧ ∀ r ∈ l, r < 0) ∨ (0 ≤ v ∧ v ∈ l ∧ ∀ r ∈ l, 0 ≤ r → v ≤ r)) : bestFrom (-1) l = v := by
  obtain ⟨h1, h2, h3, h4⟩ := bestFrom_spec l (-1) (by omega)
  rcases h with ⟨rfl, h⟩ | ⟨h0, hm, hl⟩
  · rcases h4 with h4 | h4
    · exact h4
    · have := h _ h4; omega
  · have h5 := h2 v hm h0
    rcases h4 with h4 | h4
    · omega
    · have := hl _ h4 h5.1; omega
def endsZ (n : Nfa) (l : List Int) : Int := bestFrom (-1) (l.map fun s => n.rule.getD s.toNat 0)
end Go.Proofs.W
end
/- Machines with free steps: what free steps lead to; the document's closed tables. -/
section
set_option maxHeartbeats 4000000
set_option linter.unusedVariables false
set_option linter.unusedSimpArgs false
namespace Go.Proofs.W
open Go Vm Go.Proofs.Zsb6

inductive Reach (n : Nfa) (p : Nat → Prop) : Nat → Prop
  | base {s : Nat} : p s → Reach n p s
  | step {s t : Nat} : Reach n p s → (t : Int) ∈ n.free.getD s [] → Reach n p t
noncomputable def clo (n : Nfa) (p : Nat → Prop) (s : Nat) : Bool := @decide (Reach n p s) (Classical.propDecidable _)
theorem clo_iff {n : Nfa} {p : Nat → Prop} {s : Nat} : clo n p s = true ↔ Reach n p s := by
  unfold clo; exact @decide_eq_true_iff _ (Classical.propDecidable _)
theorem right_free {n : Nfa} (h : rightN n = true) {i : Nat} (hi : i < n.set.length) {x : Int} (hx : x ∈ n.free.getD i []) : 0 ≤ x ∧ x < n.set.length := by
  have := (right_row h).2.2.2.2.2 i hi
  simp only [rowOk, Bool.and_eq_true, List.all_eq_true] at this
  exact isS_iff.1 (this.2 x hx)
theorem clo_eq {n : Nfa} (hn : rightN n = true) {p : Nat → Prop} (hp : ∀ s, p s → s < n.set.length) {q : Nat → Bool} (h1 : ∀ s, s < n.set.length → p s → q s = true) (h2 : ∀ s, s < n.set.length → q s = true → Reach n p s)
    (h3 : ∀ s, s < n.set.length → q s = true → ∀ t : Nat, (t : Int) ∈ n.free.getD s [] → q t = true) : ∀ s, s < n.set.length → q s = clo n p s := by
  have key : ∀ s, Reach n p s → s < n.set.length ∧ q s = true := by
    intro s h
    induction h with
    | base h => exact ⟨hp _ h, h1 _ (hp _ h) h⟩
    | step h ht ih =>
      have := right_free hn ih.1 ht
      exact ⟨by omega, h3 _ ih.1 ih.2 _ ht⟩
  intro s hs
  rw [Bool.eq_iff_iff, clo_iff]
  exact ⟨h2 s hs, fun h => (key s h).2⟩
end Go.Proofs.W
end
/- Machines with free steps: all states by free steps, depth first. -/
section
set_option maxHeartbeats 4000000
set_option linter.unusedVariables false
set_option linter.unusedSimpArgs false
namespace Go.Proofs.W
open Go Vm Go.Proofs.Zsb6

theorem cntF_one {q : Nat → Bool} {t : Nat} : ∀ {k : Nat}, t < k → q t = false → cntF (fun i => if i = t then true else q i) k + 1 = cntF q k
  | 0, h, _ => by omega
  | k + 1, h, h2 => by
    simp only [cntF]
    by_cases e : t = k
    · subst e
      have : ∀ m, m ≤ t → cntF (fun i => if i = t then true else q i) m = cntF q m := by
        intro m hm
        induction m with
        | zero => rfl
        | succ m ih => simp only [cntF, ih (by omega), show (m = t) = False from eq_false (by omega), if_false]
      have h3 := this t (Nat.le_refl _)
      simp only [h3, h2, if_true, Bool.false_eq_true, if_false]
    · have := cntF_one (k := k) (by omega) h2
      simp only [show (k = t) = False from eq_false (fun h => e h.symm), if_false]
      omega
/-- what the walk holds: the machine, who is there, who is told -/
def goA : List D := [.ptr 2 0 0, .ptr 3 0 0, .ptr 0 0 0, .ptr 4 0 0]
structure DS (n : Nfa) (k : Nat) (q : Nat → Bool) (out : List Int) (d : D) (H : Heap) : Prop where
  h0 : hget H 0 = .arr [nfaD n]
  h1 : hget H 1 = .arr (tabD k q)
  h2 : hget H 2 = .arr [.vec 1 0 k]
  h3 : hget H 3 = .arr [d]
  hv : VecAt 5 d H (out.map (.int .i64))
  h4 : hget H 4 = .arr [.fn 33 goA]
structure OutOk (k : Nat) (q : Nat → Bool) (out : List Int) : Prop where
  nodup : out.Nodup
  mem : ∀ x : Int, x ∈ out ↔ ∃ i, i < k ∧ q i = true ∧ x = i
  len : out.length + cntF q k = k
structure Went (n : Nfa) (k : Nat) (q q' : Nat → Bool) (s : Nat) : Prop where
  keep : ∀ x, x < k → q x = true → q' x = true
  from' : ∀ x, x < k → q' x = true → q x = true ∨ Reach n (· = s) x
  new : ∀ x, x < k → q' x = true → q x = false → ∀ t : Nat, (t : Int) ∈ n.free.getD x [] → q' t = true
def GoPost (n : Nfa) (k : Nat) (s : Int) (q : Nat → Bool) (H' : Heap) : Prop := ∃ q' out' d', DS n k q' out' d' H' ∧ OutOk k q' out' ∧ ((s < 0 ∨ k ≤ s) ∧ q' = q ∨ (0 ≤ s ∧ s < k ∧ q' s.toNat = true ∧ Went n k q q' s.toNat))
theorem go_ok (n : Nfa) (hn : rightN n = true) (hfl : ∀ l ∈ n.free, l.length ≤ 1000000) : ∀ (m : Nat) (s : Int) (q : Nat → Bool) (out : List Int) (d : D) (H : Heap), cntF q n.set.length ≤ m → DS n n.set.length q out d H → OutOk n.set.length q out →
    EvF Try.prog A 33 (.int .i64 s :: goA) H (fun _ H' => GoPost n n.set.length s q H') (fun _ _ => False) := by
  obtain ⟨hk, hk2, hf, ht, hr, hrow⟩ := right_row hn
  have hfree := fun i hi x hx => right_free hn (i := i) hi (x := x) hx
  generalize hkk : n.set.length = k at *
  intro m
  induction m using Nat.strongRecOn with
  | _ m ih =>
    rintro s q out d H hm ⟨h0, h1, h2, h3, hv, h4⟩ hout
    have hL := lt_of_hget h4
    obtain ⟨w1, w2, w3⟩ := hv.one
    have hol : out.length ≤ k := by have := hout.len; omega
    simp only [goA] at *
    refine evF_inB (n := 43) (rs := []) Try.func33 rfl rfl rfl rfl rfl rfl ?_
    by_cases c1 : 0 ≤ s
    · by_cases c2 : s < k
      · obtain ⟨t, rfl⟩ : ∃ t : Nat, s = t := ⟨s.toNat, by omega⟩
        have htk : t < k := by omega
        cases hqt : q t with
        | true =>
          repeat' (first | refine wz1 ?_ | refine wz2 ?_ | refine wz3 ?_ | refine wz4 ?_ | refine wz5 ?_ | refine wz6 ?_ | simp -dsimp (maxSteps:=999999) (disch:=omega) only[go_sem,simprocAttr, *] | ((first | refine wz8 (fun hh => ?_) (fun hh => ?_) | refine wz9 (fun hh => ?_) (fun hh => ?_) | refine wz7 (fun hh => ?_) (fun hh => ?_)) <;> (try replace hh := vqs hh) <;> (try (exfalso; first | exact hh | omega))))
          exact ⟨q, out, d, ⟨h0, h1, h2, h3, hv, h4⟩, hout, .inr ⟨c1, c2, by simpa using hqt, ⟨fun _ _ h => h, fun _ _ h => .inl h, fun x hx h g => by rw [h] at g; cases g⟩⟩⟩
        | false =>
          obtain ⟨d', H', ha, hv', hsm⟩ := app_int (hv.setLow (k := 1) (o := Ob.arr (tabD k fun i => if i = t then true else q i)) (by omega)) (t : Int) (by omega)
          obtain ⟨v1, v2, v3⟩ := hv'.one
          simp only [List.length_set] at ha
          have hL' : 5 ≤ H'.length := hv'.1
          have hs0 := hsm.2 0 (by omega)
          have hs1 := hsm.2 1 (by omega)
          have hs2 := hsm.2 2 (by omega)
          have hs3 := hsm.2 3 (by omega)
          have hs4 := hsm.2 4 (by omega)
          rw [hget_set_ne (by omega)] at hs0 hs2 hs3 hs4
          rw [hget_set_eq (by omega)] at hs1
          obtain ⟨fr, hf1, hf2⟩ := ex_at (l := n.free) (i := t) [] (by omega)
          have hfx := hfree t htk
          rw [hf2] at hfx
          have hfrl := hfl fr (List.mem_of_getElem? hf1)
          repeat' (first | refine wz1 ?_ | refine wz2 ?_ | refine wz3 ?_ | refine wz4 ?_ | refine wz5 ?_ | refine wz6 ?_ | simp -dsimp (maxSteps:=999999) (disch:=omega) only[go_sem,simprocAttr, *,nfaD, issD, isD] | ((first | refine wz8 (fun hh => ?_) (fun hh => ?_) | refine wz9 (fun hh => ?_) (fun hh => ?_) | refine wpB_cond (by simp -dsimp (maxSteps:=999999) (disch:=omega) only[go_sem,simprocAttr, *,nfaD, issD, isD]; exact rfl) (fun hh => ?_) (fun hh => ?_)) <;> (try replace hh := vqs hh) <;> (try (exfalso; first | exact hh | omega))))
          have ho1 : OutOk k (fun i => if i = t then true else q i) (out ++ [(t : Int)]) := by
            refine ⟨?_, fun x => ?_, ?_⟩
            · rw [List.nodup_append]
              refine ⟨hout.nodup, by simp, fun x hx y hy e => ?_⟩
              obtain ⟨i, i1, i2, i3⟩ := (hout.mem x).1 hx
              have : i = t := by simp at hy; omega
              subst this; rw [hqt] at i2; cases i2
            · rw [List.mem_append, hout.mem]
              constructor
              · rintro (⟨i, i1, i2, i3⟩ | hx)
                · refine ⟨i, i1, ?_, i3⟩
                  show (if i = t then true else q i) = true
                  rw [i2]; simp
                · exact ⟨t, htk, by simp, by simpa using hx⟩
              · rintro ⟨i, i1, i2, i3⟩
                by_cases e : i = t
                · subst e; exact .inr (by simp [i3])
                · simp only [e, if_false] at i2
                  exact .inl ⟨i, i1, i2, i3⟩
            · have := cntF_one htk hqt
              have h9 := hout.len
              simp only [List.length_append, List.length_cons, List.length_nil]
              omega
          refine wpB_loop (fun e H => ∃ (j : Nat) (qj : Nat → Bool) (outj : List Int) (dj : D), j ≤ fr.length ∧ DS n k qj outj dj H ∧ OutOk k qj outj ∧ e 4 = .ptr 4 0 0 ∧ e 33 = isD fr ∧ e 34 = .int .i64 fr.length ∧ e 35 = .int .i64 j ∧ (∀ x, x < k → (if x = t then true else q x) = true → qj x = true)
            ∧ (∀ x, x < k → qj x = true → (if x = t then true else q x) = true ∨ Reach n (· = t) x) ∧ (∀ x, x < k → qj x = true → (if x = t then true else q x) = false → ∀ y : Nat, (y : Int) ∈ n.free.getD x [] → qj y = true) ∧ ∀ y : Nat, (y : Int) ∈ fr.take j → qj y = true) (fun e H => fr.length - natOf (e 35)) ?_ ?_
          · refine ⟨0, _, out ++ [(t : Int)], d', by omega, ⟨by rw [hget_set_ne (by omega)]; rw [hs0, h0], by rw [hget_set_ne (by omega)]; exact hs1, by rw [hget_set_ne (by omega)]; rw [hs2, h2], by rw [hget_set_eq (by omega)], hv'.setLow (by omega), by rw [hget_set_ne (by omega)]; rw [hs4, h4]; rfl⟩, ho1, gs, by simp -dsimp (maxSteps:=999999) (disch:=omega) only[go_sem,simprocAttr, *,isD], gs, gs, fun _ _ h => h, fun _ _ h => .inl h, fun x _ h g => ?_, fun y hy => by simp at hy⟩
            have h' : (if x = t then true else q x) = true := h
            rw [h'] at g; cases g
          clear hs0 hs1 hs2 hs3 hs4 ha hv' hsm v1 v2 v3 h0 h1 h2 h3 h4 hv w1 w2 w3 ho1
          rintro e Hj ⟨j, qj, outj, dj, hj, hds, hoj, e4, e33, e34, e35, g1, g2, g3, g4⟩ R hR
          have h4 := hds.h4
          simp only [goA] at h4
          by_cases hb : j < fr.length
          · have hfj := hfx fr[j] (List.getElem_mem hb)
            obtain ⟨y, hy⟩ : ∃ y : Nat, fr[j] = (y : Int) := ⟨fr[j].toNat, by omega⟩
            have hcnt : cntF qj k < m := by
              have h5 := cntF_one htk hqt
              have h6 := cntF_le (k := k) g1
              omega
            have hcall := ih _ hcnt (y : Int) qj outj dj Hj (Nat.le_refl _) hds hoj
            repeat' (first | refine wz1 ?_ | refine wz2 ?_ | refine wz3 ?_ | refine wz4 ?_ | refine wz5 ?_ | refine wz6 ?_ | simp -dsimp (maxSteps:=999999) (disch:=omega) only[go_sem,simprocAttr, *,isD] | ((first | refine wz8 (fun hh => ?_) (fun hh => ?_) | refine wz9 (fun hh => ?_) (fun hh => ?_) | refine wpB_cond (by simp -dsimp (maxSteps:=999999) (disch:=omega) only[go_sem,simprocAttr, *,isD]; exact rfl) (fun hh => ?_) (fun hh => ?_)) <;> (try replace hh := vqs hh) <;> (try (exfalso; first | exact hh | omega))))
            refine evB_state bo33 rfl rfl hcall ?_ (fun _ _ h => h.elim)
            rintro _ H2 ⟨q2, out2, d2, hd2, ho2, hw⟩
            repeat' (first | refine wz1 ?_ | refine wz2 ?_ | refine wz3 ?_ | refine wz4 ?_ | refine wz5 ?_ | refine wz6 ?_ | simp -dsimp (maxSteps:=999999) (disch:=omega) only[go_sem,simprocAttr, *] | ((first | refine wz8 (fun hh => ?_) (fun hh => ?_) | refine wz9 (fun hh => ?_) (fun hh => ?_) | refine wz7 (fun hh => ?_) (fun hh => ?_)) <;> (try replace hh := vqs hh) <;> (try (exfalso; first | exact hh | omega))))
            rcases hw with ⟨h7, -⟩ | ⟨h7, h8, h9, hw⟩
            · omega
            · rw [Int.toNat_natCast] at h9 hw
              have hyk : y < k := by omega
              have hyf : (y : Int) ∈ n.free.getD t [] := by rw [hf2, ← hy]; exact List.getElem_mem hb
              have hfrom : ∀ x, Reach n (· = y) x → Reach n (· = t) x := by
                intro x hx
                induction hx with
                | base h => subst h; exact .step (.base rfl) hyf
                | step _ h ih => exact .step ih h
              refine hR _ _ ⟨j + 1, q2, out2, d2, by omega, hd2, ho2, gs, by simp -dsimp (maxSteps:=999999) (disch:=omega) only[go_sem,simprocAttr, *,isD], gs, gs, fun x hx h => hw.keep x hx (g1 x hx h), fun x hx h => ?_, fun x hx h g z hz => ?_, fun z hz => ?_⟩ ?_
              · rcases hw.from' x hx h with h | h
                · exact g2 x hx h
                · exact .inr (hfrom x h)
              · cases hq : qj x with
                | true =>
                  have hzk := hfree x hx z hz
                  exact hw.keep z (by omega) (g3 x hx hq g z hz)
                | false => exact hw.new x hx h hq z hz
              · rw [take_succ' hb, List.mem_append] at hz
                rcases hz with hz | hz
                · have hzk := hfx z (List.mem_of_mem_take hz)
                  exact hw.keep z (by omega) (g4 z hz)
                · have : z = y := by simp [hy] at hz; omega
                  subst this; exact h9
              · simp -dsimp (maxSteps:=999999) (disch:=omega) only[go_sem,simprocAttr, *,natOf_int]
          · repeat' (first | refine wz1 ?_ | refine wz2 ?_ | refine wz3 ?_ | refine wz4 ?_ | refine wz5 ?_ | refine wz6 ?_ | simp -dsimp (maxSteps:=999999) (disch:=omega) only[go_sem,simprocAttr, *] | ((first | refine wz8 (fun hh => ?_) (fun hh => ?_) | refine wz9 (fun hh => ?_) (fun hh => ?_) | refine wz7 (fun hh => ?_) (fun hh => ?_)) <;> (try replace hh := vqs hh) <;> (try (exfalso; first | exact hh | omega))))
            refine ⟨qj, outj, dj, hds, hoj, .inr ⟨c1, c2, by simpa using g1 t htk (by simp), ⟨fun x hx h => g1 x hx (by rw [h]; simp), fun x hx h => ?_, fun x hx h g z hz => ?_⟩⟩⟩
            · rcases g2 x hx h with h | h
              · by_cases e : x = t
                · subst e; exact .inr (.base (by simp))
                · rw [if_neg e] at h; exact .inl h
              · exact .inr (by simpa using h)
            · by_cases e : x = t
              · subst e
                rw [hf2] at hz
                exact g4 z (by rw [List.take_of_length_le (by omega)]; exact hz)
              · exact g3 x hx h (by rw [if_neg e]; exact g) z hz
      · repeat' (first | refine wz1 ?_ | refine wz2 ?_ | refine wz3 ?_ | refine wz4 ?_ | refine wz5 ?_ | refine wz6 ?_ | simp -dsimp (maxSteps:=999999) (disch:=omega) only[go_sem,simprocAttr, *] | ((first | refine wz8 (fun hh => ?_) (fun hh => ?_) | refine wz9 (fun hh => ?_) (fun hh => ?_) | refine wz7 (fun hh => ?_) (fun hh => ?_)) <;> (try replace hh := vqs hh) <;> (try (exfalso; first | exact hh | omega))))
        exact ⟨q, out, d, ⟨h0, h1, h2, h3, hv, h4⟩, hout, .inl ⟨.inr (by omega), rfl⟩⟩
    · repeat' (first | refine wz1 ?_ | refine wz2 ?_ | refine wz3 ?_ | refine wz4 ?_ | refine wz5 ?_ | refine wz6 ?_ | simp -dsimp (maxSteps:=999999) (disch:=omega) only[go_sem,simprocAttr, *] | ((first | refine wz8 (fun hh => ?_) (fun hh => ?_) | refine wz9 (fun hh => ?_) (fun hh => ?_) | refine wz7 (fun hh => ?_) (fun hh => ?_)) <;> (try replace hh := vqs hh) <;> (try (exfalso; first | exact hh | omega))))
      exact ⟨q, out, d, ⟨h0, h1, h2, h3, hv, h4⟩, hout, .inl ⟨.inl (by omega), rfl⟩⟩
end Go.Proofs.W
end
/- Sorted and compacted lists of numbers. -/
section
set_option maxHeartbeats 4000000
set_option linter.unusedVariables false
set_option linter.unusedSimpArgs false
namespace Go.Proofs.W
open Go Vm Go.Proofs.Zsb6

theorem strict_unique : ∀ {l l' : List Int}, l.Pairwise (· < ·) → l'.Pairwise (· < ·) → (∀ x, x ∈ l ↔ x ∈ l') → l = l'
  | [], [], _, _, _ => rfl
  | [], y :: t', _, _, h => by have := (h y).2 (by simp); cases this
  | x :: t, [], _, _, h => by have := (h x).1 (by simp); cases this
  | x :: t, y :: t', h1, h2, h => by
    have a1 := List.pairwise_cons.1 h1
    have a2 := List.pairwise_cons.1 h2
    have hx := (h x).1 (by simp)
    have hy := (h y).2 (by simp)
    have e : x = y := by
      rcases List.mem_cons.1 hx with e | hx
      · exact e
      · rcases List.mem_cons.1 hy with e | hy
        · exact e.symm
        · have := a1.1 y hy
          have := a2.1 x hx
          omega
    subst e
    refine congrArg (x :: ·) (strict_unique a1.2 a2.2 fun z => ⟨fun hz => ?_, fun hz => ?_⟩)
    · rcases List.mem_cons.1 ((h z).1 (List.mem_cons_of_mem _ hz)) with rfl | hz'
      · have := a1.1 _ hz; omega
      · exact hz'
    · rcases List.mem_cons.1 ((h z).2 (List.mem_cons_of_mem _ hz)) with rfl | hz'
      · have := a2.1 _ hz; omega
      · exact hz'
theorem listZ_strict (k : Nat) (p : Nat → Bool) : (listZ k p).Pairwise (· < ·) := by
  induction k with
  | zero => simp [listZ]
  | succ k ih =>
    rw [listZ_succ]
    cases hp : p k with
    | false => simpa using ih
    | true =>
      simp only [if_true, List.pairwise_append]
      refine ⟨ih, by simp, fun x hx y hy => ?_⟩
      obtain ⟨i, h1, h2, h3⟩ := mem_listZ.1 hx
      simp at hy; omega
theorem le_of_lt_pw {l : List Int} (h : l.Pairwise (· < ·)) : l.Pairwise (· ≤ ·) := h.imp fun h => Int.le_of_lt h
theorem strict_of {l : List Int} (h : l.Pairwise (· ≤ ·)) (hn : l.Nodup) : l.Pairwise (· < ·) := by
  have := List.pairwise_and_iff.2 ⟨h, hn⟩
  exact this.imp fun h => by have := h.1; have := h.2; omega
theorem sort_listZ {k : Nat} {q : Nat → Bool} {out : List Int} (h : OutOk k q out) : sortZ out = listZ k q := by
  refine strict_unique (strict_of (sortZ_sorted out) ((sortZ_perm out).nodup_iff.2 h.nodup)) (listZ_strict k q) fun x => ?_
  rw [(sortZ_perm out).mem_iff, h.mem, mem_listZ]
theorem compact_spec (d : Array Int) (hd : ∀ i j, i ≤ j → j < d.size → d[i]! ≤ d[j]!) : ∀ m, m ≤ d.size → (Lib.compactUpTo d m).Pairwise (· < ·) ∧ ∀ x, x ∈ Lib.compactUpTo d m ↔ ∃ j, j < m ∧ d[j]! = x
  | 0, _ => by simp [Lib.compactUpTo]
  | m + 1, hm => by
    obtain ⟨h1, h2⟩ := compact_spec d hd m (by omega)
    rw [Lib.compactUpTo_succ]
    cases hk : Lib.keeps d m with
    | true =>
      simp only [if_true]
      have hlt : ∀ j, j < m → d[j]! < d[m]! := by
        intro j hj
        simp only [Lib.keeps, decide_eq_true_eq] at hk
        have := hd j (m - 1) (by omega) (by omega)
        have := hd (m - 1) m (by omega) (by omega)
        rcases hk with hk | hk
        · omega
        · omega
      refine ⟨List.pairwise_append.2 ⟨h1, by simp, fun x hx y hy => ?_⟩, fun x => ?_⟩
      · obtain ⟨j, j1, j2⟩ := (h2 x).1 hx
        have := hlt j j1
        simp at hy; omega
      · rw [List.mem_append, h2]
        constructor
        · rintro (⟨j, j1, j2⟩ | hx)
          · exact ⟨j, by omega, j2⟩
          · exact ⟨m, by omega, by simpa using Eq.symm (by simpa using hx)⟩
        · rintro ⟨j, j1, j2⟩
          by_cases e : j = m
          · subst e; exact .inr (by simp [← j2])
          · exact .inl ⟨j, by omega, j2⟩
    | false =>
      simp only [Bool.false_eq_true, if_false, List.append_nil]
      refine ⟨h1, fun x => ?_⟩
      rw [h2]
      simp only [Lib.keeps, decide_eq_false_iff_not, not_or, Decidable.not_not] at hk
      constructor
      · rintro ⟨j, j1, j2⟩; exact ⟨j, by omega, j2⟩
      · rintro ⟨j, j1, j2⟩
        by_cases e : j = m
        · subst e; exact ⟨j - 1, by omega, by rw [← hk.2]; exact j2⟩
        · exact ⟨j, by omega, j2⟩
theorem pw_get {l : List Int} (h : l.Pairwise (· ≤ ·)) (i j : Nat) (hij : i ≤ j) (hj : j < l.toArray.size) : l.toArray[i]! ≤ l.toArray[j]! := by
  simp at hj
  rw [getElem!_pos l.toArray i (by simp; omega), getElem!_pos l.toArray j (by simpa using hj)]
  simp
  by_cases e : i = j
  · subst e; exact Int.le_refl _
  · exact List.pairwise_iff_getElem.1 h i j (by omega) hj (by omega)
theorem compact_sorted (zs : List Int) : (Lib.compact (sortZ zs)).Pairwise (· < ·) ∧ ∀ x, x ∈ Lib.compact (sortZ zs) ↔ x ∈ zs := by
  have hs := sortZ_sorted zs
  obtain ⟨h1, h2⟩ := compact_spec (sortZ zs).toArray (pw_get hs) (sortZ zs).length (by simp)
  refine ⟨h1, fun x => ?_⟩
  rw [← (sortZ_perm zs).mem_iff]
  show x ∈ Lib.compactUpTo _ _ ↔ _
  rw [h2, List.mem_iff_getElem]
  constructor
  · rintro ⟨j, j1, j2⟩
    exact ⟨j, j1, by rw [← j2, getElem!_pos (sortZ zs).toArray j (by simpa using j1)]; simp⟩
  · rintro ⟨j, j1, j2⟩
    exact ⟨j, j1, by rw [← j2, getElem!_pos (sortZ zs).toArray j (by simpa using j1)]; simp⟩
theorem compact_len (zs : List Int) : (Lib.compact zs).length ≤ zs.length := by
  unfold Lib.compact Lib.compactUpTo
  have := List.length_filter_le (Lib.keeps zs.toArray) (List.range zs.length)
  simpa using this
theorem sortZ_len (zs : List Int) : (sortZ zs).length = zs.length := (sortZ_perm zs).length_eq
theorem sort_vec {m : Nat} {d : D} {H : Heap} {zs : List Int} (h : VecAt m d H (zs.map (.int .i64))) (hl : zs.length ≤ 1000000) : ∃ H', pSort [d] H = some (.ok (.tup []) H') ∧ VecAt m d H' ((sortZ zs).map (.int .i64)) ∧ Same m H H' := by
  obtain ⟨h0, h | ⟨h1, r, h2, h3, h4, h5⟩⟩ := h
  · obtain ⟨h1, rfl⟩ := h
    obtain rfl : zs = [] := by simpa using h1
    exact ⟨H, rfl, ⟨h0, .inl ⟨rfl, rfl⟩⟩, Same.refl⟩
  · have hz : zs ≠ [] := by simpa using h1
    subst h4
    refine ⟨H.set r (.arr ((sortZ zs).map (.int .i64))), ?_, ⟨by simpa using h0, .inr ⟨?_, r, h2, by simpa using h3, ?_, hget_set_eq h3⟩⟩, Same.set h2⟩
    · simp only [pSort, h5, intsD_map, Option.bind_some]
      rw [if_pos ⟨by simp, by omega, by cases zs with | nil => exact absurd rfl hz | cons a b => simp⟩]
    · have := sortZ_len zs
      intro e
      have e2 : sortZ zs = [] := by simpa using e
      rw [e2] at this
      cases zs with
      | nil => exact hz rfl
      | cons a b => simp at this
    · simp [sortZ_len]
theorem compact_vec {m : Nat} {d : D} {H : Heap} {zs : List Int} (h : VecAt m d H (zs.map (.int .i64))) (hl : zs.length ≤ 1000000) : ∃ d' H', pCompact [d] H = some (.ok d' H') ∧ outPure H' d' = some (isD (Lib.compact zs)) ∧ Same m H H' := by
  obtain ⟨h0, h | ⟨h1, r, h2, h3, h4, h5⟩⟩ := h
  · obtain ⟨h1, rfl⟩ := h
    obtain rfl : zs = [] := by simpa using h1
    exact ⟨_, H, rfl, rfl, Same.refl⟩
  · have hz : zs ≠ [] := by simpa using h1
    subst h4
    refine ⟨.vec r 0 (Lib.compact zs).length, H.set r (.arr ((compactZ zs).map (.int .i64))), ?_, ?_, Same.set h2⟩
    · simp only [pCompact, h5, intsD_map, Option.bind_some]
      rw [if_pos ⟨by simp, by omega, by cases zs with | nil => exact absurd rfl hz | cons a b => simp, compact_len zs⟩]
    · unfold outPure deepest
      rw [pur_vec, hget_set_eq h3]
      have hcl : (compactZ zs).length = zs.length := by have := compact_len zs; simp [compactZ]; omega
      have htk : (((compactZ zs).map (D.int .i64)).drop 0).take (Lib.compact zs).length = (Lib.compact zs).map (.int .i64) := by
        rw [List.drop_zero, ← List.map_take]
        congr 1
        simp [compactZ]
      have hle := compact_len zs
      simp only [Nat.zero_add, List.length_map, hcl, if_pos hle, htk]
      rw [purL_strip (strip_ints _)]
      rfl
end Go.Proofs.W
end
/-
  DERIVED: THE SHELF's CONTRACTS AT THIS DUMP, IN PLAIN WORDS (tools/lay-plain.mjs out of 'TryShelf.lean', which tools/lay-shelf.mjs wrote): THE SAME DECLARATIONS UNDER THE SAME NAMES: 'import', 'namespace', 'open', 'def', 'theorem' AND NOTHING ELSE: no command of the shelf's: FOR A HAND-IN. Each laying: the table of numbers ('.._ren') and one theorem, a field a fact of the dump's own or the kernel's comparison; each contract: ONE APPLICATION.
-/
section
namespace Go.Proofs
open Go.Shelf
def Try.lays189_ren : Go.Shelf.Ren := ⟨fun | 189 => 31 | 125 => 36 | 257 => 35 | 128 => 46 | 129 => 47 | 294 => 37 | 295 => 38 | 296 => 39 | 297 => 40 | 298 => 41 | 299 => 42 | 216 => 43 | 300 => 44 | 301 => 45 | 328 => 48 | 329 => 49 | 330 => 50 | 331 => 51 | 332 => 52 | 215 => 53 | 343 => 54 | n => n, fun | 28 => 27 | 3 => 3 | 46 => 69 | 0 => 0 | 51 => 80 | 53 => 82 | 4 => 4 | 183 => 72 | 182 => 71 | 131 => 77 | 5 => 5 | 9 => 9 | 218 => 83 | 222 => 59 | 228 => 88 | 229 => 50 | n => n, fun | n => n⟩
theorem Try.lays189 : Go.Proofs.Lays.n189 Try.prog Try.lays189_ren := {
  mixed := by kernel_rfl
  f125 := Try.func36.trans (congrArg some (by kernel_rfl))
  f128 := Try.func46.trans (congrArg some (by kernel_rfl))
  f129 := Try.func47.trans (congrArg some (by kernel_rfl))
  f189 := Try.func31.trans (congrArg some (by kernel_rfl))
  f215 := Try.func53.trans (congrArg some (by kernel_rfl))
  f216 := Try.func43.trans (congrArg some (by kernel_rfl))
  f257 := Try.func35.trans (congrArg some (by kernel_rfl))
  f294 := Try.func37.trans (congrArg some (by kernel_rfl))
  f295 := Try.func38.trans (congrArg some (by kernel_rfl))
  f296 := Try.func39.trans (congrArg some (by kernel_rfl))
  f297 := Try.func40.trans (congrArg some (by kernel_rfl))
  f298 := Try.func41.trans (congrArg some (by kernel_rfl))
  f299 := Try.func42.trans (congrArg some (by kernel_rfl))
  f300 := Try.func44.trans (congrArg some (by kernel_rfl))
  f301 := Try.func45.trans (congrArg some (by kernel_rfl))
  f328 := Try.func48.trans (congrArg some (by kernel_rfl))
  f329 := Try.func49.trans (congrArg some (by kernel_rfl))
  f330 := Try.func50.trans (congrArg some (by kernel_rfl))
  f331 := Try.func51.trans (congrArg some (by kernel_rfl))
  f332 := Try.func52.trans (congrArg some (by kernel_rfl))
  f343 := Try.func54.trans (congrArg some (by kernel_rfl))
  t0 := Try.underlying0
  a0 := Try.isAgg0
  z0 := Try.sizeOf0
  v0 := Try.zeroValue0
  t3 := Try.underlying3
  a3 := Try.isAgg3
  z3 := Try.sizeOf3
  v3 := Try.zeroValue3
  t4 := Try.underlying4
  a4 := Try.isAgg4
  z4 := Try.sizeOf4
  v4 := Try.zeroValue4
  t5 := Try.underlying5
  a5 := Try.isAgg5
  z5 := Try.sizeOf5
  v5 := Try.zeroValue5
  t9 := Try.underlying9
  a9 := Try.isAgg9
  z9 := Try.sizeOf9
  v9 := Try.zeroValue9
  t28 := Try.underlying27
  a28 := Try.isAgg27
  z28 := Try.sizeOf27
  v28 := Try.zeroValue27
  t46 := Try.underlying69
  a46 := Try.isAgg69
  z46 := Try.sizeOf69
  v46 := Try.zeroValue69
  t51 := Try.underlying80
  a51 := Try.isAgg80
  z51 := Try.sizeOf80
  v51 := Try.zeroValue80
  t53 := Try.underlying82
  a53 := Try.isAgg82
  z53 := Try.sizeOf82
  v53 := Try.zeroValue82
  t131 := Try.underlying77
  a131 := Try.isAgg77
  z131 := Try.sizeOf77
  v131 := Try.zeroValue77
  t182 := Try.underlying71
  a182 := Try.isAgg71
  z182 := Try.sizeOf71
  v182 := Try.zeroValue71
  t183 := Try.underlying72
  a183 := Try.isAgg72
  z183 := Try.sizeOf72
  v183 := Try.zeroValue72
  t218 := Try.underlying83
  a218 := Try.isAgg83
  z218 := Try.sizeOf83
  v218 := Try.zeroValue83
  t222 := Try.underlying59
  a222 := Try.isAgg59
  z222 := Try.sizeOf59
  v222 := Try.zeroValue59
  t228 := Try.underlying88
  a228 := Try.isAgg88
  z228 := Try.sizeOf88
  v228 := Try.zeroValue88
  t229 := Try.underlying50
  a229 := Try.isAgg50
  z229 := Try.sizeOf50
  v229 := Try.zeroValue50 }
open Go.Sort Go.RowKit in
theorem Try.slices_Sort_int (blk off cap : Nat) (zs : List Int) (w : World) (hH : Holds (Value.int .i64) w blk off zs.toArray) (hblk : blk < w.heap.size) (hsz : zs.length < 4611686018427387904) :
    Calls Try.prog 31 #[.slice (some ⟨blk, off, none⟩) zs.length cap] w fun e w' =>
      e = .returned (.tuple #[]) ∧ ∃ n os, w' = grow (putRow (Value.int .i64) (Sort.ahead w n) blk off (zs.mergeSort fun x y => decide (x ≤ y)).toArray) os := Any.slices_Sort_int Try.lays189 blk off cap zs w hH hblk hsz
open Go.RowKit Go.Sort in
/-- .. and plain. (LAID: no walk: one application.) -/
theorem Try.slices_Sort_int_none (p : Option Addr) (cap : Nat) (w : World) :
    Calls Try.prog 31 #[.slice p 0 cap] w fun e w' => e = .returned (.tuple #[]) ∧ w' = w := Any.slices_Sort_int_none Try.lays189 p cap w
def Try.laysNm220_ren : Go.Shelf.Ren := ⟨fun | 20 => 32 | n => n, fun | 22 => 27 | 3 => 3 | 4 => 4 | 0 => 0 | n => n, fun | n => n⟩
theorem Try.laysNm220 : Go.Proofs.Lays2.n20 Try.prog Try.laysNm220_ren := {
  mixed := by kernel_rfl
  f20 := Try.func32.trans (congrArg some (by kernel_rfl))
  t0 := Try.underlying0
  a0 := Try.isAgg0
  z0 := Try.sizeOf0
  v0 := Try.zeroValue0
  t3 := Try.underlying3
  a3 := Try.isAgg3
  z3 := Try.sizeOf3
  v3 := Try.zeroValue3
  t4 := Try.underlying4
  a4 := Try.isAgg4
  z4 := Try.sizeOf4
  v4 := Try.zeroValue4
  t22 := Try.underlying27
  a22 := Try.isAgg27
  z22 := Try.sizeOf27
  v22 := Try.zeroValue27
  i3 := by kernel_rfl }
open Go.RowKit Go.Lib Go.Sort in
/-- slices.Compact at []int: "Compact replaces consecutive runs of equal elements with a single copy. This is like the uniq command found on Unix. Compact modifies the contents of the slice s and returns the modified slice, which may have a smaller length. Compact zeroes the elements between the new length and the original length. The result preserves the nilness of s.": IT RETURNS THE SLICE CUT TO 'Lib.compact zs'; ITS CELLS HOLD 'Lib.compact zs', THEN ZERO VALUES up to the old length; all else is as it was, but for the count of draws. IN THE WORDS OF slices.Sort's CONTRACT ('Holds', 'putRow'): so the everyday 'slices.Sort(xs); xs = slices.Compact(xs)' goes from the one contract to the other. It asks 'zs.length ≤ cap' (every slice's: the reslicing 's[:k]' looks at it). Length 0, nil: '.._empty'. (LAID: no walk: one application.) -/
theorem Try.slices_Compact_int (blk off cap : Nat) (zs : List Int) (w : World) (hH : Holds (Value.int .i64) w blk off zs.toArray) (hsz : zs.length ≤ 9223372036854775807) (hcap : zs.length ≤ cap) :
    Calls Try.prog 32 #[.slice (some ⟨blk, off, none⟩) zs.length cap] w fun e w' => e = .returned (.slice (some ⟨blk, off, none⟩) (Lib.compact zs).length cap) ∧ ∃ q, w' = putRow (Value.int .i64) (Sort.ahead w q) blk off (Lib.compact zs ++ List.replicate (zs.length - (Lib.compact zs).length) 0).toArray := Any.slices_Compact_int Try.laysNm220 blk off cap zs w hH hsz hcap
open Go.RowKit Go.Lib Go.Sort in
/-- The same at a slice of length 0, a nil one too: it comes back as it is. (LAID: no walk: one application.) -/
theorem Try.slices_Compact_int_empty (a : Option Addr) (cap : Nat) (w : World) :
    Calls Try.prog 32 #[.slice a 0 cap] w fun e w' => e = .returned (.slice a 0 cap) ∧ w' = w := Any.slices_Compact_int_empty Try.laysNm220 a cap w
end Go.Proofs
end
/- The chapter on machines with free steps: the functions that are taken as they are. -/
section
set_option maxHeartbeats 4000000
set_option linter.unusedVariables false
set_option linter.unusedSimpArgs false
namespace Go.Proofs.W
open Go Vm Go.Proofs.Zsb6

theorem primA [Base] : PrimOk Try.prog A := by
  refine ⟨fun f k h => (by cases h), fun f g h => (by cases h), ?_⟩
  intro f p h args H r hr ρ im w vs hR hvs
  simp only [A] at h
  split at h
  · rename_i e; subst e; cases h
    exact pSort_at (fun blk cap zs w h1 h2 h3 => Try.slices_Sort_int blk 0 cap zs w h1 h2 h3) (fun p cap w => Try.slices_Sort_int_none p cap w) args H r hr ρ im w vs hR hvs
  split at h
  · rename_i e; subst e; cases h
    exact pCompact_at (fun blk cap zs w h1 h2 h3 => Try.slices_Compact_int blk 0 cap zs w h1 h2 h3) (fun p cap w => Try.slices_Compact_int_empty p cap w) args H r hr ρ im w vs hR hvs
  · cases h
end Go.Proofs.W
end
/- Machines with free steps: the program's own walk. -/
section
set_option maxHeartbeats 4000000
set_option linter.unusedVariables false
set_option linter.unusedSimpArgs false
namespace Go.Proofs.W
open Go Vm Go.Proofs.Zsb6

def inS (k : Nat) (l : List Int) (s : Nat) : Prop := s < k ∧ (s : Int) ∈ l
theorem Reach.sub {n : Nfa} {p p' : Nat → Prop} {x : Nat} (h : Reach n p x) (hp : ∀ s, p s → Reach n p' s) : Reach n p' x := by
  induction h with
  | base h => exact hp _ h
  | step _ h ih => exact .step ih h
theorem closed_ok (n : Nfa) (l : List Int) (hn : rightN n = true) (hfl : ∀ l ∈ n.free, l.length ≤ 1000000) (hl : l.length ≤ 1000000) : PureF Try.prog A 25 [nfaD n, isD l] (isD (listZ n.set.length (clo n (inS n.set.length l)))) := by
  have hgo := go_ok n hn hfl
  have hrr := right_row hn
  have hk := hrr.1
  have hk2 := hrr.2.1
  have hfree := fun i hi x hx => right_free hn (i := i) hi (x := x) hx
  have hceq := fun q => clo_eq hn (p := inS n.set.length l) (fun s h => h.1) (q := q)
  have hmk : ∀ H, makeSliceD Try.prog 65 (.int .i64 n.set.length) (.int .i64 n.set.length) H = some (.vec H.length 0 n.set.length, H ++ [.arr (tabD n.set.length fun _ => false)]) := fun H => mkBools hk (by omega)
  generalize hkk : n.set.length = k at *
  refine evF_inB (n := 28) (rs := [.tmp 4]) Try.func25 rfl rfl rfl rfl rfl rfl ?_
  repeat' (first | refine wz1 ?_ | refine wz2 ?_ | refine wz3 ?_ | refine wz4 ?_ | refine wz5 ?_ | refine wz6 ?_ | simp -dsimp (maxSteps:=999999) (disch:=omega) only[go_sem,simprocAttr, *,nfaD, u16D, isD] | ((first | refine wz8 (fun hh => ?_) (fun hh => ?_) | refine wz9 (fun hh => ?_) (fun hh => ?_) | refine wpB_cond (by simp -dsimp (maxSteps:=999999) (disch:=omega) only[go_sem,simprocAttr, *,nfaD, u16D, isD]; exact rfl) (fun hh => ?_) (fun hh => ?_)) <;> (try replace hh := vqs hh) <;> (try (exfalso; first | exact hh | omega))))
  let I : Nat → Env → Heap → Prop := fun j e H => ∃ (q : Nat → Bool) (out : List Int) (d : D), DS n k q out d H ∧ OutOk k q out ∧ e 6 = .ptr 3 0 0 ∧ e 7 = .ptr 4 0 0 ∧ e 15 = isD l ∧ e 16 = .int .i64 l.length ∧ e 17 = .int .i64 j
    ∧ (∀ x, x < k → q x = true → Reach n (inS k l) x) ∧ (∀ x, x < k → q x = true → ∀ y : Nat, (y : Int) ∈ n.free.getD x [] → q y = true) ∧ (∀ y : Nat, y < k → (y : Int) ∈ l.take j → q y = true)
  refine wpB_loop (fun e H => ∃ j, j ≤ l.length ∧ I j e H) (fun e H => l.length - natOf (e 17)) ?_ ?_
  · refine ⟨0, by omega, fun _ => false, [], .sl true [], ⟨rfl, rfl, rfl, rfl, VecAt.nil (by simp), rfl⟩, ⟨by simp, by simp, ?_⟩, gs, gs, by simp -dsimp (maxSteps:=999999) (disch:=omega) only[go_sem,simprocAttr, *,isD], by simp -dsimp (maxSteps:=999999) (disch:=omega) only[go_sem,simprocAttr, *,isD], gs, by simp, by simp, fun y _ h => by simp at h⟩
    have : ∀ m, cntF (fun _ => false) m = m := fun m => by
      induction m with
      | zero => rfl
      | succ m ih => simp [cntF, ih]
    simp [this]
  · rintro e H ⟨j, hj, q, out, d, hds, hout, e6, e7, e15, e16, e17, g1, g2, g3⟩ R hR
    have h4 := hds.h4
    have h3 := hds.h3
    simp only [goA] at h4
    by_cases hb : j < l.length
    · have hcall := hgo _ l[j] q out d H (Nat.le_refl _) hds hout
      simp only [goA] at hcall
      repeat' (first | refine wz1 ?_ | refine wz2 ?_ | refine wz3 ?_ | refine wz4 ?_ | refine wz5 ?_ | refine wz6 ?_ | simp -dsimp (maxSteps:=999999) (disch:=omega) only[go_sem,simprocAttr, *,isD] | ((first | refine wz8 (fun hh => ?_) (fun hh => ?_) | refine wz9 (fun hh => ?_) (fun hh => ?_) | refine wpB_cond (by simp -dsimp (maxSteps:=999999) (disch:=omega) only[go_sem,simprocAttr, *,isD]; exact rfl) (fun hh => ?_) (fun hh => ?_)) <;> (try replace hh := vqs hh) <;> (try (exfalso; first | exact hh | omega))))
      refine evB_state bo33 rfl rfl hcall ?_ (fun _ _ h => h.elim)
      rintro _ H2 ⟨q2, out2, d2, hd2, ho2, hw⟩
      repeat' (first | refine wz1 ?_ | refine wz2 ?_ | refine wz3 ?_ | refine wz4 ?_ | refine wz5 ?_ | refine wz6 ?_ | simp -dsimp (maxSteps:=999999) (disch:=omega) only[go_sem,simprocAttr, *] | ((first | refine wz8 (fun hh => ?_) (fun hh => ?_) | refine wz9 (fun hh => ?_) (fun hh => ?_) | refine wz7 (fun hh => ?_) (fun hh => ?_)) <;> (try replace hh := vqs hh) <;> (try (exfalso; first | exact hh | omega))))
      rcases hw with ⟨h7, rfl⟩ | ⟨h7, h8, h9, hw⟩
      · refine hR _ _ ⟨j + 1, by omega, q2, out2, d2, hd2, ho2, gs, gs, gs, gs, gs, g1, g2, fun y hy hyl => ?_⟩ ?_
        · rw [take_succ' hb, List.mem_append] at hyl
          rcases hyl with h | h
          · exact g3 y hy h
          · simp at h; omega
        · simp -dsimp (maxSteps:=999999) (disch:=omega) only[go_sem,simprocAttr, *,natOf_int]
      · obtain ⟨y, hy⟩ : ∃ y : Nat, l[j] = (y : Int) := ⟨l[j].toNat, by omega⟩
        rw [hy, Int.toNat_natCast] at h9 hw
        have hyS : inS k l y := ⟨by omega, by rw [← hy]; exact List.getElem_mem hb⟩
        refine hR _ _ ⟨j + 1, by omega, q2, out2, d2, hd2, ho2, gs, gs, gs, gs, gs, fun x hx h => ?_, fun x hx h z hz => ?_, fun z hz hzl => ?_⟩ ?_
        · rcases hw.from' x hx h with h | h
          · exact g1 x hx h
          · exact h.sub fun z hz => by subst hz; exact .base hyS
        · cases hq : q x with
          | true => exact hw.keep z (by have := hfree x hx z hz; omega) (g2 x hx hq z hz)
          | false => exact hw.new x hx h hq z hz
        · rw [take_succ' hb, List.mem_append] at hzl
          rcases hzl with h | h
          · exact hw.keep z hz (g3 z hz h)
          · obtain rfl : z = y := by simp [hy] at h; omega
            exact h9
        · simp -dsimp (maxSteps:=999999) (disch:=omega) only[go_sem,simprocAttr, *,natOf_int]
    · obtain ⟨H3, hs1, hs2, hs3⟩ := sort_vec hds.hv (by have := hout.len; omega)
      have h33 := hs3.2 3 (by omega)
      rw [h3] at h33
      obtain ⟨w1, w2, w3⟩ := hds.hv.one
      repeat' (first | refine wz1 ?_ | refine wz2 ?_ | refine wz3 ?_ | refine wz4 ?_ | refine wz5 ?_ | refine wz6 ?_ | simp -dsimp (maxSteps:=999999) (disch:=omega) only[go_sem,simprocAttr, *] | ((first | refine wz8 (fun hh => ?_) (fun hh => ?_) | refine wz9 (fun hh => ?_) (fun hh => ?_) | refine wz7 (fun hh => ?_) (fun hh => ?_)) <;> (try replace hh := vqs hh) <;> (try (exfalso; first | exact hh | omega))))
      refine evB_prim bo31 rfl hs1 ?_
      repeat' (first | refine wz1 ?_ | refine wz2 ?_ | refine wz3 ?_ | refine wz4 ?_ | refine wz5 ?_ | refine wz6 ?_ | simp -dsimp (maxSteps:=999999) (disch:=omega) only[go_sem,simprocAttr, *] | ((first | refine wz8 (fun hh => ?_) (fun hh => ?_) | refine wz9 (fun hh => ?_) (fun hh => ?_) | refine wz7 (fun hh => ?_) (fun hh => ?_)) <;> (try replace hh := vqs hh) <;> (try (exfalso; first | exact hh | omega))))
      rw [hs2.out (strip_ints _), sort_listZ hout]
      have he : listZ k q = listZ k (clo n (inS k l)) := by
        have := hceq q (fun s _ h => g3 s h.1 (by rw [List.take_of_length_le (by omega)]; exact h.2)) g1 g2
        unfold listZ
        congr 1
        exact List.filter_congr fun s hs => this s (by simpa using hs)
      rw [he]; rfl
end Go.Proofs.W
end
/- Machines with free steps: steps, ends, matches of the program. -/
section
set_option maxHeartbeats 4000000
set_option linter.unusedVariables false
set_option linter.unusedSimpArgs false
namespace Go.Proofs.W
open Go Vm Go.Proofs.Zsb6

theorem pures_one {a x : D} {H : Heap} {k : Nat} (ha : strip a = some a) (hx : strip x = some x) (hk : k = H.length) : pures (H ++ [.arr [x]]) [a, .vec k 0 1] = some ([a, .sl false [x]], H ++ [.fro [x]]) := by
  subst hk
  have hg : hget (H ++ [Ob.arr [x]]) H.length = .arr [x] := by rw [hget_app0]; rfl
  simp only [pures, deepest, purL, pur_strip ha, Option.bind_some]
  rw [show (6 : Nat) = 4 + 2 from rfl, pur_vec, hg]
  have hs : stripL [x] = some [x] := by simp [stripL, hx]
  simp only [Nat.zero_add, List.length_cons, List.length_nil, Nat.le_refl, if_true, List.drop_zero, List.take_succ_cons, List.take_zero]
  rw [purL_strip hs]
  simp
/-- those by one category -/
noncomputable def clos (n : Nfa) (l : List Int) : List Int := listZ n.set.length (clo n (inS n.set.length l))
def stp (n : Nfa) (c : Int) (l : List Int) : List Int := listZ n.set.length (stepTo n c (fun s => decide ((s : Int) ∈ l)) n.set.length)
def okS (n : Nfa) (c s : Int) : Bool := isS n.set.length s && hit n c s.toNat
def steps (n : Nfa) (c : Int) (l : List Int) : List Int := (l.filter (okS n c)).map fun s => n.to.getD s.toNat 0
theorem steps_take {n : Nfa} {c : Int} {l : List Int} {j : Nat} (h : j < l.length) : steps n c (l.take (j + 1)) = steps n c (l.take j) ++ if okS n c l[j] then [n.to.getD l[j].toNat 0] else [] := by
  unfold steps
  rw [take_succ' h, List.filter_append, List.map_append]
  congr 1
  by_cases hq : okS n c l[j] = true <;> simp [hq]
theorem steps_len (n : Nfa) (c : Int) (l : List Int) : (steps n c l).length ≤ l.length := by
  have := List.length_filter_le (okS n c) l
  simpa [steps] using this
theorem steps_eq {n : Nfa} (hn : rightN n = true) (c : Int) (l : List Int) : Lib.compact (sortZ (steps n c l)) = stp n c l := by
  obtain ⟨h1, h2⟩ := compact_sorted (steps n c l)
  refine strict_unique h1 (listZ_strict _ _) fun x => ?_
  rw [h2]
  unfold stp
  rw [mem_listZ]
  simp only [steps, List.mem_map, List.mem_filter, stepTo, List.any_eq_true, List.mem_range, Bool.and_eq_true, decide_eq_true_eq, okS, isS_iff]
  constructor
  · rintro ⟨s, ⟨h3, ⟨h4, h5⟩, h6⟩, rfl⟩
    have := right_hit hn (by omega) h6
    exact ⟨(n.to.getD s.toNat 0).toNat, by omega, ⟨s.toNat, by omega, ⟨by rw [show ((s.toNat : Nat) : Int) = s by omega]; exact h3, h6⟩, by omega⟩, by omega⟩
  · rintro ⟨i, h3, ⟨j, h4, ⟨h5, h6⟩, h7⟩, rfl⟩
    exact ⟨(j : Int), ⟨h5, ⟨by omega, by omega⟩, by simpa using h6⟩, by simpa using h7⟩
theorem step_ok (n : Nfa) (c : Int) (l : List Int) (hn : rightN n = true) (hl : l.length ≤ 100000) : PureF Try.prog A 23 [nfaD n, isD l, .int .i64 c] (isD (stp n c l)) := by
  have hrr := right_row hn
  have hk := hrr.1
  have hk2 := hrr.2.1
  have hto0 := hrr.2.2.2.1
  have hse := steps_eq hn c l
  have hH : ∀ (i : Nat) (s : Int), n.set.getD i 0 = s → 0 ≤ c → c < 16 → hit n c i = bitZ s c := fun i s h h0 h1 => hit_bit h0 h1 h
  refine evF_inB (n := 57) (rs := [.tmp 6]) Try.func23 rfl rfl rfl rfl rfl rfl ?_
  repeat' (first | refine wz1 ?_ | refine wz2 ?_ | refine wz3 ?_ | refine wz4 ?_ | refine wz5 ?_ | refine wz6 ?_ | simp -dsimp (maxSteps:=999999) (disch:=omega) only[go_sem,simprocAttr, *,isD, nfaD] | ((first | refine wz8 (fun hh => ?_) (fun hh => ?_) | refine wz9 (fun hh => ?_) (fun hh => ?_) | refine wpB_cond (by simp -dsimp (maxSteps:=999999) (disch:=omega) only[go_sem,simprocAttr, *,isD, nfaD]; exact rfl) (fun hh => ?_) (fun hh => ?_)) <;> (try replace hh := vqs hh) <;> (try (exfalso; first | exact hh | omega))))
  refine wpB_loop (fun e H => ∃ (j : Nat) (d : D), j ≤ l.length ∧ hget H 0 = .arr [nfaD n] ∧ VecAt 1 d H ((steps n c (l.take j)).map (.int .i64)) ∧ e 2 = .int .i64 c ∧ e 3 = .ptr 0 0 0 ∧ e 7 = d ∧ e 10 = isD l ∧ e 11 = .int .i64 l.length ∧ e 12 = .int .i64 j) (fun e H => l.length - natOf (e 12)) ?_ ?_
  · exact ⟨0, .sl true [], by omega, rfl, VecAt.nil (by simp), gs, gs, gs, by simp -dsimp (maxSteps:=999999) (disch:=omega) only[go_sem,simprocAttr, *,isD], gs, gs⟩
  · rintro e H ⟨j, d, hj, h0, hv, e2, e3, e7, e10, e11, e12⟩ R hR
    by_cases hb : j < l.length
    · have hst := steps_take (n := n) (c := c) hb
      have no : okS n c l[j] = false → steps n c (l.take (j + 1)) = steps n c (l.take j) := fun h => by rw [hst, h]; simp
      by_cases hin : isS n.set.length l[j] = true
      · obtain ⟨i, hi⟩ : ∃ i : Nat, l[j] = (i : Int) := ⟨l[j].toNat, by have := isS_iff.1 hin; omega⟩
        have hik : i < n.set.length := by have := isS_iff.1 hin; omega
        obtain ⟨s, hs1, hs2⟩ := ex_at (l := n.set) (i := i) 0 (by omega)
        obtain ⟨t, ht1, ht2⟩ := ex_at (l := n.to) (i := i) 0 (by omega)
        have hx : l[j]? = some (i : Int) := by rw [List.getElem?_eq_getElem hb, hi]
        have hokS : okS n c l[j] = hit n c i := by rw [hi] at hin ⊢; simp only [okS, hin, Int.toNat_natCast, Bool.true_and]
        rw [hokS] at no hst
        have hbit := hH i s hs2
        simp only [bitZ] at hbit
        cases hht : hit n c i with
        | false =>
          have hno := no hht
          clear hst no hokS hin hi
          by_cases c0 : 0 ≤ c
          · by_cases c1 : c < 16
            · replace hbit := (hbit c0 c1).symm.trans hht
              repeat' (first | refine wz1 ?_ | refine wz2 ?_ | refine wz3 ?_ | refine wz4 ?_ | refine wz5 ?_ | refine wz6 ?_ | simp -dsimp (maxSteps:=999999) (disch:=omega) only[go_sem,simprocAttr, *,nfaD, u16D, isD] | ((first | refine wz8 (fun hh => ?_) (fun hh => ?_) | refine wz9 (fun hh => ?_) (fun hh => ?_) | refine wpB_cond (by simp -dsimp (maxSteps:=999999) (disch:=omega) only[go_sem,simprocAttr, *,nfaD, u16D, isD]; exact rfl) (fun hh => ?_) (fun hh => ?_)) <;> (try replace hh := vqs hh) <;> (try (exfalso; first | exact hh | omega))))
              · exact absurd (hbit.symm.trans (beq_iff_eq.2 (by assumption))) (by decide)
              · refine hR _ _ ⟨j + 1, d, by omega, by simp -dsimp (maxSteps:=999999) (disch:=omega) only[go_sem,simprocAttr, *,nfaD, u16D, isD], by rw [hno]; exact hv, gs, gs, gs, by simp -dsimp (maxSteps:=999999) (disch:=omega) only[go_sem,simprocAttr, *,isD], gs, gs⟩ ?_
                simp -dsimp (maxSteps:=999999) (disch:=omega) only[go_sem,simprocAttr, *,natOf_int]
            · clear hbit
              repeat' (first | refine wz1 ?_ | refine wz2 ?_ | refine wz3 ?_ | refine wz4 ?_ | refine wz5 ?_ | refine wz6 ?_ | simp -dsimp (maxSteps:=999999) (disch:=omega) only[go_sem,simprocAttr, *,nfaD, u16D, isD] | ((first | refine wz8 (fun hh => ?_) (fun hh => ?_) | refine wz9 (fun hh => ?_) (fun hh => ?_) | refine wpB_cond (by simp -dsimp (maxSteps:=999999) (disch:=omega) only[go_sem,simprocAttr, *,nfaD, u16D, isD]; exact rfl) (fun hh => ?_) (fun hh => ?_)) <;> (try replace hh := vqs hh) <;> (try (exfalso; first | exact hh | omega))))
              refine hR _ _ ⟨j + 1, d, by omega, by simp -dsimp (maxSteps:=999999) (disch:=omega) only[go_sem,simprocAttr, *,nfaD, u16D, isD], by rw [hno]; exact hv, gs, gs, gs, by simp -dsimp (maxSteps:=999999) (disch:=omega) only[go_sem,simprocAttr, *,isD], gs, gs⟩ ?_
              simp -dsimp (maxSteps:=999999) (disch:=omega) only[go_sem,simprocAttr, *,natOf_int]
          · clear hbit
            repeat' (first | refine wz1 ?_ | refine wz2 ?_ | refine wz3 ?_ | refine wz4 ?_ | refine wz5 ?_ | refine wz6 ?_ | simp -dsimp (maxSteps:=999999) (disch:=omega) only[go_sem,simprocAttr, *,nfaD, u16D, isD] | ((first | refine wz8 (fun hh => ?_) (fun hh => ?_) | refine wz9 (fun hh => ?_) (fun hh => ?_) | refine wpB_cond (by simp -dsimp (maxSteps:=999999) (disch:=omega) only[go_sem,simprocAttr, *,nfaD, u16D, isD]; exact rfl) (fun hh => ?_) (fun hh => ?_)) <;> (try replace hh := vqs hh) <;> (try (exfalso; first | exact hh | omega))))
            refine hR _ _ ⟨j + 1, d, by omega, by simp -dsimp (maxSteps:=999999) (disch:=omega) only[go_sem,simprocAttr, *,nfaD, u16D, isD], by rw [hno]; exact hv, gs, gs, gs, by simp -dsimp (maxSteps:=999999) (disch:=omega) only[go_sem,simprocAttr, *,isD], gs, gs⟩ ?_
            simp -dsimp (maxSteps:=999999) (disch:=omega) only[go_sem,simprocAttr, *,natOf_int]
        | true =>
          have hc : 0 ≤ c ∧ c < 16 := by
            simp only [hit, inB, Bool.and_eq_true, decide_eq_true_eq] at hht
            exact hht.1
          obtain ⟨c0, c1⟩ := hc
          replace hbit := (hbit c0 c1).symm.trans hht
          rw [hht, hi] at hst
          simp only [if_true, Int.toNat_natCast, ht2] at hst
          obtain ⟨d', H', ha, hv', hsm⟩ := app_int hv t (by have := steps_len n c (l.take j); simp at this; omega)
          have h0' := hsm.2 0 (by omega)
          rw [h0] at h0'
          clear no hokS hin hi
          repeat' (first | refine wz1 ?_ | refine wz2 ?_ | refine wz3 ?_ | refine wz4 ?_ | refine wz5 ?_ | refine wz6 ?_ | simp -dsimp (maxSteps:=999999) (disch:=omega) only[go_sem,simprocAttr, *,nfaD, u16D, isD] | ((first | refine wz8 (fun hh => ?_) (fun hh => ?_) | refine wz9 (fun hh => ?_) (fun hh => ?_) | refine wpB_cond (by simp -dsimp (maxSteps:=999999) (disch:=omega) only[go_sem,simprocAttr, *,nfaD, u16D, isD]; exact rfl) (fun hh => ?_) (fun hh => ?_)) <;> (try replace hh := vqs hh) <;> (try (exfalso; first | exact hh | omega))))
          rotate_left
          · exact absurd (beq_iff_eq.1 hbit) (by assumption)
          refine hR _ _ ⟨j + 1, d', by omega, by simp -dsimp (maxSteps:=999999) (disch:=omega) only[go_sem,simprocAttr, *,nfaD, u16D, isD], by rw [hst]; exact hv', gs, gs, gs, by simp -dsimp (maxSteps:=999999) (disch:=omega) only[go_sem,simprocAttr, *,isD], gs, gs⟩ ?_
          simp -dsimp (maxSteps:=999999) (disch:=omega) only[go_sem,simprocAttr, *,natOf_int]
      · have hno := no (by simp only [okS, Bool.and_eq_false_iff]; left; simpa using hin)
        have hrng : l[j] < 0 ∨ (n.set.length : Int) ≤ l[j] := by
          have : ¬ (0 ≤ l[j] ∧ l[j] < (n.set.length : Int)) := fun h => hin (isS_iff.2 h)
          omega
        clear no hst hH
        rcases hrng with h | h
        all_goals
          repeat' (first | refine wz1 ?_ | refine wz2 ?_ | refine wz3 ?_ | refine wz4 ?_ | refine wz5 ?_ | refine wz6 ?_ | simp -dsimp (maxSteps:=999999) (disch:=omega) only[go_sem,simprocAttr, *,nfaD, u16D, isD] | ((first | refine wz8 (fun hh => ?_) (fun hh => ?_) | refine wz9 (fun hh => ?_) (fun hh => ?_) | refine wpB_cond (by simp -dsimp (maxSteps:=999999) (disch:=omega) only[go_sem,simprocAttr, *,nfaD, u16D, isD]; exact rfl) (fun hh => ?_) (fun hh => ?_)) <;> (try replace hh := vqs hh) <;> (try (exfalso; first | exact hh | omega))))
          refine hR _ _ ⟨j + 1, d, by omega, by simp -dsimp (maxSteps:=999999) (disch:=omega) only[go_sem,simprocAttr, *,nfaD, u16D, isD], by rw [hno]; exact hv, gs, gs, gs, by simp -dsimp (maxSteps:=999999) (disch:=omega) only[go_sem,simprocAttr, *,isD], gs, gs⟩ ?_
          simp -dsimp (maxSteps:=999999) (disch:=omega) only[go_sem,simprocAttr, *,natOf_int]
    · have hle := steps_len n c (l.take j)
      rw [List.take_of_length_le (by omega)] at hv hle
      obtain ⟨H3, hs1, hs2, hs3⟩ := sort_vec hv (by omega)
      obtain ⟨d4, H4, hc1, hc2, hc3⟩ := compact_vec hs2 (by rw [sortZ_len]; omega)
      repeat' (first | refine wz1 ?_ | refine wz2 ?_ | refine wz3 ?_ | refine wz4 ?_ | refine wz5 ?_ | refine wz6 ?_ | simp -dsimp (maxSteps:=999999) (disch:=omega) only[go_sem,simprocAttr, *] | ((first | refine wz8 (fun hh => ?_) (fun hh => ?_) | refine wz9 (fun hh => ?_) (fun hh => ?_) | refine wz7 (fun hh => ?_) (fun hh => ?_)) <;> (try replace hh := vqs hh) <;> (try (exfalso; first | exact hh | omega))))
      refine evB_prim bo31 rfl hs1 ?_
      repeat' (first | refine wz1 ?_ | refine wz2 ?_ | refine wz3 ?_ | refine wz4 ?_ | refine wz5 ?_ | refine wz6 ?_ | simp -dsimp (maxSteps:=999999) (disch:=omega) only[go_sem,simprocAttr, *] | ((first | refine wz8 (fun hh => ?_) (fun hh => ?_) | refine wz9 (fun hh => ?_) (fun hh => ?_) | refine wz7 (fun hh => ?_) (fun hh => ?_)) <;> (try replace hh := vqs hh) <;> (try (exfalso; first | exact hh | omega))))
      refine evB_prim bo32 rfl hc1 ?_
      repeat' (first | refine wz1 ?_ | refine wz2 ?_ | refine wz3 ?_ | refine wz4 ?_ | refine wz5 ?_ | refine wz6 ?_ | simp -dsimp (maxSteps:=999999) (disch:=omega) only[go_sem,simprocAttr, *] | ((first | refine wz8 (fun hh => ?_) (fun hh => ?_) | refine wz9 (fun hh => ?_) (fun hh => ?_) | refine wz7 (fun hh => ?_) (fun hh => ?_)) <;> (try replace hh := vqs hh) <;> (try (exfalso; first | exact hh | omega))))
end Go.Proofs.W
end
/- Machines with free steps: ends and matches of the program. -/
section
set_option maxHeartbeats 4000000
set_option linter.unusedVariables false
set_option linter.unusedSimpArgs false
namespace Go.Proofs.W
open Go Vm Go.Proofs.Zsb6

theorem evB_pureK {f : FuncId} {args xs : List D} {d : D} {H H' : Heap} {K Kp : D → Heap → Prop} (hb : bodied Try.prog f = true) (hp : primQ A f = false) (hm : A.mode f = .pure) (ha : pures H args = some (xs, H')) (h : PureF Try.prog A f xs d) (k : ∀ H2, H2 = H ∨ H2 = H' → PP (K d H2)) : EvB Try.prog A f args H K Kp := by
  refine evB_pure hb hp hm ha h ?_
  split
  · exact k _ (.inl rfl)
  · exact k _ (.inr rfl)
theorem alive_ok : PureF Try.prog A 4 [] (.bool true) := okTrue_run alive_run
theorem nfa_noTup (n : Nfa) : noTup (nfaD n) = true := rfl
theorem nfa_cells (n : Nfa) : (nfaD n).cells.length = 4 := rfl
theorem nfa_aggQ (n : Nfa) : aggQ (nfaD n) = true := rfl
theorem is_len (l : List Int) : lenU (some (.slice 3)) [] (isD l) = some l.length := by simp [isD, lenU]
theorem stripN (n : Nfa) : stripL [nfaD n] = some [nfaD n] := strip1 (strip_nfa n)
theorem stripNI (n : Nfa) (l : List Int) : stripL [nfaD n, isD l] = some [nfaD n, isD l] := strip2 (strip_nfa n) (strip_is l)
theorem stripNIc (n : Nfa) (l : List Int) (c : Int) : stripL [nfaD n, isD l, .int .i64 c] = some [nfaD n, isD l, .int .i64 c] := by simp [stripL, strip_nfa, strip_is, strip]
theorem ends_ok' (n : Nfa) (l : List Int) (hn : rightN n = true) (hl : ∀ s ∈ l, 0 ≤ s ∧ s < n.set.length) (hll : l.length ≤ 1000000) : PureF Try.prog A 26 [nfaD n, isD l] (.int .i64 (endsZ n l)) := by
  have hrr := right_row hn
  have hr := hrr.2.2.2.2.1
  have hx : endsZ n l = bestFrom (-1) ((l.drop 0).map fun s => n.rule.getD s.toNat 0) := rfl
  rw [hx]
  generalize hG : bestFrom (-1) ((l.drop 0).map fun s => n.rule.getD s.toNat 0) = G
  clear hx
  refine evF_inB (n := 34) (rs := [.tmp 4]) Try.func26 rfl rfl rfl rfl rfl rfl ?_
  repeat' (first | refine wz1 ?_ | refine wz2 ?_ | refine wz3 ?_ | refine wz4 ?_ | refine wz5 ?_ | refine wz6 ?_ | simp -dsimp (maxSteps:=999999) (disch:=omega) only[go_sem,simprocAttr, *,nfaD, isD] | ((first | refine wz8 (fun hh => ?_) (fun hh => ?_) | refine wz9 (fun hh => ?_) (fun hh => ?_) | refine wpB_cond (by simp -dsimp (maxSteps:=999999) (disch:=omega) only[go_sem,simprocAttr, *,nfaD, isD]; exact rfl) (fun hh => ?_) (fun hh => ?_)) <;> (try replace hh := vqs hh) <;> (try (exfalso; first | exact hh | omega))))
  refine wpB_loop (fun e H => ∃ (j : Nat) (o : Int), j ≤ l.length ∧ H = [Ob.arr [nfaD n]] ∧ e 2 = .ptr 0 0 0 ∧ e 5 = .int .i64 o ∧ e 9 = isD l ∧ e 10 = .int .i64 l.length ∧ e 11 = .int .i64 j ∧ G = bestFrom o ((l.drop j).map fun s => n.rule.getD s.toNat 0)) (fun e H => l.length - natOf (e 11)) ?_ ?_
  · exact ⟨0, -1, by omega, rfl, gs, gs, by simp -dsimp (maxSteps:=999999) (disch:=omega) only[go_sem,simprocAttr, *,isD], gs, gs, hG.symm⟩
  · clear hG
    rintro e H ⟨j, o, hj, rfl, e2, e5, e9, e10, e11, hG⟩ R hR
    by_cases hb : j < l.length
    · obtain ⟨i, hi⟩ : ∃ i : Nat, l[j] = (i : Int) := ⟨l[j].toNat, by have := (hl l[j] (List.getElem_mem hb)); omega⟩
      have hik : i < n.set.length := by have := (hl l[j] (List.getElem_mem hb)); omega
      have hx : l[j]? = some (i : Int) := by rw [List.getElem?_eq_getElem hb, hi]
      obtain ⟨t, ht1, ht2⟩ := ex_at (l := n.rule) (i := i) 0 (by omega)
      rw [List.drop_eq_getElem_cons hb, List.map_cons, bestFrom_cons, hi, Int.toNat_natCast, ht2] at hG
      repeat' (first | refine wz1 ?_ | refine wz2 ?_ | refine wz3 ?_ | refine wz4 ?_ | refine wz5 ?_ | refine wz6 ?_ | simp -dsimp (maxSteps:=999999) (disch:=omega) only[go_sem,simprocAttr, *,nfaD, isD] | ((first | refine wz8 (fun hh => ?_) (fun hh => ?_) | refine wz9 (fun hh => ?_) (fun hh => ?_) | refine wpB_cond (by simp -dsimp (maxSteps:=999999) (disch:=omega) only[go_sem,simprocAttr, *,nfaD, isD]; exact rfl) (fun hh => ?_) (fun hh => ?_)) <;> (try replace hh := vqs hh) <;> (try (exfalso; first | exact hh | omega))))
      all_goals first
        | (rw [if_pos (by omega)] at hG; refine hR _ _ ⟨j + 1, t, by omega, by simp -dsimp (maxSteps:=999999) (disch:=omega) only[go_sem,simprocAttr, *,nfaD, isD], gs, gs, by simp -dsimp (maxSteps:=999999) (disch:=omega) only[go_sem,simprocAttr, *,isD], gs, gs, hG⟩ ?_; simp -dsimp (maxSteps:=999999) (disch:=omega) only[go_sem,simprocAttr, *,natOf_int])
        | (rw [if_neg (by omega)] at hG; refine hR _ _ ⟨j + 1, o, by omega, by simp -dsimp (maxSteps:=999999) (disch:=omega) only[go_sem,simprocAttr, *,nfaD, isD], gs, gs, by simp -dsimp (maxSteps:=999999) (disch:=omega) only[go_sem,simprocAttr, *,isD], gs, gs, hG⟩ ?_; simp -dsimp (maxSteps:=999999) (disch:=omega) only[go_sem,simprocAttr, *,natOf_int])
    · rw [List.drop_eq_nil_of_le (by omega)] at hG
      have : G = o := hG
      rw [this]
      repeat' (first | refine wz1 ?_ | refine wz2 ?_ | refine wz3 ?_ | refine wz4 ?_ | refine wz5 ?_ | refine wz6 ?_ | simp -dsimp (maxSteps:=999999) (disch:=omega) only[go_sem,simprocAttr, *] | ((first | refine wz8 (fun hh => ?_) (fun hh => ?_) | refine wz9 (fun hh => ?_) (fun hh => ?_) | refine wz7 (fun hh => ?_) (fun hh => ?_)) <;> (try replace hh := vqs hh) <;> (try (exfalso; first | exact hh | omega))))
noncomputable def closeN (n : Nfa) (l : List Int) : List Int := if rightN n then clos n l else []
def stepN (n : Nfa) (c : Int) (l : List Int) : List Int := if rightN n then stp n c l else []
noncomputable def atN (n : Nfa) (w : List Int) : List Int := w.foldl (fun at' c => clos n (stp n c at')) (clos n [0])
noncomputable def matchN (n : Nfa) (w : List Int) : Int := if rightN n then endsZ n (atN n w) else -1
structure OkN (n : Nfa) : Prop where
  len : n.set.length ≤ 100000
  fl : ∀ l ∈ n.free, l.length ≤ 1000000
theorem isEmpty_out (H : Heap) : outPure H (.sl true []) = some (isD []) := rfl
theorem close_ok (n : Nfa) (l : List Int) (h : OkN n) (hl : l.length ≤ 1000000) : PureF Try.prog A 13 [nfaD n, isD l] (isD (closeN n l)) := by
  have a1 := nfa_noTup n
  have a2 := nfa_cells n
  have a3 := nfa_aggQ n
  refine evF_inB (n := 11) (rs := [.tmp 4]) Try.func13 rfl rfl rfl rfl rfl rfl ?_
  repeat' (first | refine wz1 ?_ | refine wz2 ?_ | refine wz3 ?_ | refine wz4 ?_ | refine wz5 ?_ | refine wz6 ?_ | simp -dsimp (maxSteps:=999999) (disch:=omega) only[go_sem,simprocAttr, *] | ((first | refine wz8 (fun hh => ?_) (fun hh => ?_) | refine wz9 (fun hh => ?_) (fun hh => ?_) | refine wz7 (fun hh => ?_) (fun hh => ?_)) <;> (try replace hh := vqs hh) <;> (try (exfalso; first | exact hh | omega))))
  refine evB_plain bo11 rfl rfl (stripN n) (nright_ok n (by have := h.len; omega) h.fl) ?_
  unfold closeN
  cases hr : rightN n with
  | false =>
    repeat' (first | refine wz1 ?_ | refine wz2 ?_ | refine wz3 ?_ | refine wz4 ?_ | refine wz5 ?_ | refine wz6 ?_ | simp -dsimp (maxSteps:=999999) (disch:=omega) only[go_sem,simprocAttr, *] | ((first | refine wz8 (fun hh => ?_) (fun hh => ?_) | refine wz9 (fun hh => ?_) (fun hh => ?_) | refine wz7 (fun hh => ?_) (fun hh => ?_)) <;> (try replace hh := vqs hh) <;> (try (exfalso; first | exact hh | omega))))
    rfl
  | true =>
    repeat' (first | refine wz1 ?_ | refine wz2 ?_ | refine wz3 ?_ | refine wz4 ?_ | refine wz5 ?_ | refine wz6 ?_ | simp -dsimp (maxSteps:=999999) (disch:=omega) only[go_sem,simprocAttr, *] | ((first | refine wz8 (fun hh => ?_) (fun hh => ?_) | refine wz9 (fun hh => ?_) (fun hh => ?_) | refine wz7 (fun hh => ?_) (fun hh => ?_)) <;> (try replace hh := vqs hh) <;> (try (exfalso; first | exact hh | omega))))
    refine evB_plain bo25 rfl rfl (stripNI n l) (closed_ok n l hr h.fl hl) ?_
    repeat' (first | refine wz1 ?_ | refine wz2 ?_ | refine wz3 ?_ | refine wz4 ?_ | refine wz5 ?_ | refine wz6 ?_ | simp -dsimp (maxSteps:=999999) (disch:=omega) only[go_sem,simprocAttr, *] | ((first | refine wz8 (fun hh => ?_) (fun hh => ?_) | refine wz9 (fun hh => ?_) (fun hh => ?_) | refine wz7 (fun hh => ?_) (fun hh => ?_)) <;> (try replace hh := vqs hh) <;> (try (exfalso; first | exact hh | omega))))
    exact outPure_strip (strip_is _)
theorem stepc_ok (n : Nfa) (l : List Int) (c : Int) (h : OkN n) (hl : l.length ≤ 100000) : PureF Try.prog A 9 [nfaD n, isD l, .int .i64 c] (isD (stepN n c l)) := by
  have a1 := nfa_noTup n
  have a2 := nfa_cells n
  have a3 := nfa_aggQ n
  refine evF_inB (n := 14) (rs := [.tmp 6]) Try.func9 rfl rfl rfl rfl rfl rfl ?_
  repeat' (first | refine wz1 ?_ | refine wz2 ?_ | refine wz3 ?_ | refine wz4 ?_ | refine wz5 ?_ | refine wz6 ?_ | simp -dsimp (maxSteps:=999999) (disch:=omega) only[go_sem,simprocAttr, *] | ((first | refine wz8 (fun hh => ?_) (fun hh => ?_) | refine wz9 (fun hh => ?_) (fun hh => ?_) | refine wz7 (fun hh => ?_) (fun hh => ?_)) <;> (try replace hh := vqs hh) <;> (try (exfalso; first | exact hh | omega))))
  refine evB_plain bo11 rfl rfl (stripN n) (nright_ok n (by have := h.len; omega) h.fl) ?_
  unfold stepN
  cases hr : rightN n with
  | false =>
    repeat' (first | refine wz1 ?_ | refine wz2 ?_ | refine wz3 ?_ | refine wz4 ?_ | refine wz5 ?_ | refine wz6 ?_ | simp -dsimp (maxSteps:=999999) (disch:=omega) only[go_sem,simprocAttr, *] | ((first | refine wz8 (fun hh => ?_) (fun hh => ?_) | refine wz9 (fun hh => ?_) (fun hh => ?_) | refine wz7 (fun hh => ?_) (fun hh => ?_)) <;> (try replace hh := vqs hh) <;> (try (exfalso; first | exact hh | omega))))
    rfl
  | true =>
    repeat' (first | refine wz1 ?_ | refine wz2 ?_ | refine wz3 ?_ | refine wz4 ?_ | refine wz5 ?_ | refine wz6 ?_ | simp -dsimp (maxSteps:=999999) (disch:=omega) only[go_sem,simprocAttr, *] | ((first | refine wz8 (fun hh => ?_) (fun hh => ?_) | refine wz9 (fun hh => ?_) (fun hh => ?_) | refine wz7 (fun hh => ?_) (fun hh => ?_)) <;> (try replace hh := vqs hh) <;> (try (exfalso; first | exact hh | omega))))
    refine evB_plain bo23 rfl rfl (stripNIc n l c) (step_ok n c l hr hl) ?_
    repeat' (first | refine wz1 ?_ | refine wz2 ?_ | refine wz3 ?_ | refine wz4 ?_ | refine wz5 ?_ | refine wz6 ?_ | simp -dsimp (maxSteps:=999999) (disch:=omega) only[go_sem,simprocAttr, *] | ((first | refine wz8 (fun hh => ?_) (fun hh => ?_) | refine wz9 (fun hh => ?_) (fun hh => ?_) | refine wz7 (fun hh => ?_) (fun hh => ?_)) <;> (try replace hh := vqs hh) <;> (try (exfalso; first | exact hh | omega))))
    exact outPure_strip (strip_is _)
theorem stp_len (n : Nfa) (c : Int) (l : List Int) : (stp n c l).length ≤ n.set.length := listZ_len _ _
theorem clos_len (n : Nfa) (l : List Int) : (clos n l).length ≤ n.set.length := listZ_len _ _
theorem clos_in {n : Nfa} {l : List Int} {s : Int} (h : s ∈ clos n l) : 0 ≤ s ∧ s < n.set.length := by
  obtain ⟨i, h1, h2, h3⟩ := mem_listZ.1 h
  omega
theorem atN_clos (n : Nfa) (w : List Int) : ∃ l, atN n w = clos n l := by
  have : ∀ (w : List Int) (a : List Int), (∃ l, a = clos n l) → ∃ l, w.foldl (fun at' c => clos n (stp n c at')) a = clos n l := by
    intro w
    induction w with
    | nil => exact fun a h => h
    | cons c w ih => exact fun a h => ih _ ⟨_, rfl⟩
  exact this w _ ⟨_, rfl⟩
theorem atN_take {n : Nfa} {w : List Int} {j : Nat} (h : j < w.length) : atN n (w.take (j + 1)) = clos n (stp n w[j] (atN n (w.take j))) := by
  unfold atN
  rw [take_succ' h, List.foldl_append]
  rfl
theorem match_ok (n : Nfa) (w : List Int) (h : OkN n) (hl : w.length ≤ 1000000) : PureF Try.prog A 12 [nfaD n, isD w] (.int .i64 (matchN n w)) := by
  have a1 := nfa_noTup n
  have a2 := nfa_cells n
  have a3 := nfa_aggQ n
  refine evF_inB (n := 30) (rs := [.tmp 4]) Try.func12 rfl rfl rfl rfl rfl rfl ?_
  repeat' (first | refine wz1 ?_ | refine wz2 ?_ | refine wz3 ?_ | refine wz4 ?_ | refine wz5 ?_ | refine wz6 ?_ | simp -dsimp (maxSteps:=999999) (disch:=omega) only[go_sem,simprocAttr, *] | ((first | refine wz8 (fun hh => ?_) (fun hh => ?_) | refine wz9 (fun hh => ?_) (fun hh => ?_) | refine wz7 (fun hh => ?_) (fun hh => ?_)) <;> (try replace hh := vqs hh) <;> (try (exfalso; first | exact hh | omega))))
  refine evB_plain bo11 rfl rfl (stripN n) (nright_ok n (by have := h.len; omega) h.fl) ?_
  unfold matchN
  cases hr : rightN n with
  | false =>
    repeat' (first | refine wz1 ?_ | refine wz2 ?_ | refine wz3 ?_ | refine wz4 ?_ | refine wz5 ?_ | refine wz6 ?_ | simp -dsimp (maxSteps:=999999) (disch:=omega) only[go_sem,simprocAttr, *] | ((first | refine wz8 (fun hh => ?_) (fun hh => ?_) | refine wz9 (fun hh => ?_) (fun hh => ?_) | refine wz7 (fun hh => ?_) (fun hh => ?_)) <;> (try replace hh := vqs hh) <;> (try (exfalso; first | exact hh | omega))))
    try rfl
  | true =>
    have hcl := fun l hl => closed_ok n l hr h.fl (by have := hl; omega : l.length ≤ 1000000)
    have hal : ∀ w, (atN n w).length ≤ 100000 := fun w => by
      obtain ⟨l, hl⟩ := atN_clos n w
      rw [hl]; have := clos_len n l; have := h.len; omega
    repeat' (first | refine wz1 ?_ | refine wz2 ?_ | refine wz3 ?_ | refine wz4 ?_ | refine wz5 ?_ | refine wz6 ?_ | simp -dsimp (maxSteps:=999999) (disch:=omega) only[go_sem,simprocAttr, *] | ((first | refine wz8 (fun hh => ?_) (fun hh => ?_) | refine wz9 (fun hh => ?_) (fun hh => ?_) | refine wz7 (fun hh => ?_) (fun hh => ?_)) <;> (try replace hh := vqs hh) <;> (try (exfalso; first | exact hh | omega))))
    refine evB_pureK bo25 rfl rfl (pures_one (H := [Ob.arr [nfaD n]]) (strip_nfa n) rfl rfl) (closed_ok n [0] hr h.fl (by simp)) ?_
    intro H1 hH1
    have h0 : hget H1 0 = .arr [nfaD n] := by rcases hH1 with rfl | rfl <;> rfl
    clear hH1
    rw [show listZ n.set.length (clo n (inS n.set.length [0])) = atN n (w.take 0) from rfl]
    repeat' (first | refine wz1 ?_ | refine wz2 ?_ | refine wz3 ?_ | refine wz4 ?_ | refine wz5 ?_ | refine wz6 ?_ | simp -dsimp (maxSteps:=999999) (disch:=omega) only[go_sem,simprocAttr, *,isD] | ((first | refine wz8 (fun hh => ?_) (fun hh => ?_) | refine wz9 (fun hh => ?_) (fun hh => ?_) | refine wpB_cond (by simp -dsimp (maxSteps:=999999) (disch:=omega) only[go_sem,simprocAttr, *,isD]; exact rfl) (fun hh => ?_) (fun hh => ?_)) <;> (try replace hh := vqs hh) <;> (try (exfalso; first | exact hh | omega))))
    refine wpB_loop (fun e H => ∃ (j : Nat), j ≤ w.length ∧ hget H 0 = .arr [nfaD n] ∧ e 2 = .ptr 0 0 0 ∧ e 5 = isD (atN n (w.take j)) ∧ e 14 = isD w ∧ e 15 = .int .i64 w.length ∧ e 16 = .int .i64 j) (fun e H => w.length - natOf (e 16)) ?_ ?_
    · exact ⟨0, by omega, h0, gs, by simp -dsimp (maxSteps:=999999) (disch:=omega) only[go_sem,simprocAttr, *,isD], by simp -dsimp (maxSteps:=999999) (disch:=omega) only[go_sem,simprocAttr, *,isD], gs, gs⟩
    · clear h0
      rintro e H ⟨j, hj, h0, e2, e5, e14, e15, e16⟩ R hR
      by_cases hb : j < w.length
      · have hst := step_ok n w[j] (atN n (w.take j)) hr (hal _)
        have hcl2 := hcl (stp n w[j] (atN n (w.take j))) (by have := stp_len n w[j] (atN n (w.take j)); have := h.len; omega)
        rw [show listZ n.set.length (clo n (inS n.set.length (stp n w[j] (atN n (w.take j))))) = atN n (w.take (j + 1)) from (atN_take hb).symm] at hcl2
        have hs1 := stripNIc n (atN n (w.take j)) w[j]
        have hs2 := stripNI n (stp n w[j] (atN n (w.take j)))
        clear hcl
        have ew : isD w = .sl false (w.map (.int .i64)) := rfl
        repeat' (first | refine wz1 ?_ | refine wz2 ?_ | refine wz3 ?_ | refine wz4 ?_ | refine wz5 ?_ | refine wz6 ?_ | simp -dsimp (maxSteps:=999999) (disch:=omega) only[go_sem,simprocAttr, *] | ((first | refine wz8 (fun hh => ?_) (fun hh => ?_) | refine wz9 (fun hh => ?_) (fun hh => ?_) | refine wz7 (fun hh => ?_) (fun hh => ?_)) <;> (try replace hh := vqs hh) <;> (try (exfalso; first | exact hh | omega))))
        refine wpB_regionXL (prs := []) (by kernel_rfl) rfl (by kernel_rfl) ?_
        simp -dsimp (maxSteps:=999999) (disch:=omega) only[go_sem,simprocAttr, *]
        refine ⟨fun _ => rfl, evB_plain bo23 rfl rfl hs1 hst ?_⟩
        simp -dsimp (maxSteps:=999999) (disch:=omega) only[go_sem,simprocAttr, *]
        refine ⟨fun _ => rfl, evB_plain bo25 rfl rfl hs2 hcl2 ?_⟩
        repeat' (first | refine wz1 ?_ | refine wz2 ?_ | refine wz3 ?_ | refine wz4 ?_ | refine wz5 ?_ | refine wz6 ?_ | simp -dsimp (maxSteps:=999999) (disch:=omega) only[go_sem,simprocAttr, *] | ((first | refine wz8 (fun hh => ?_) (fun hh => ?_) | refine wz9 (fun hh => ?_) (fun hh => ?_) | refine wz7 (fun hh => ?_) (fun hh => ?_)) <;> (try replace hh := vqs hh) <;> (try (exfalso; first | exact hh | omega))))
        refine hR _ _ ⟨j + 1, by omega, h0, gs, gs, gs, gs, gs⟩ ?_
        simp -dsimp (maxSteps:=999999) (disch:=omega) only[go_sem,simprocAttr, *,natOf_int]
      · repeat' (first | refine wz1 ?_ | refine wz2 ?_ | refine wz3 ?_ | refine wz4 ?_ | refine wz5 ?_ | refine wz6 ?_ | simp -dsimp (maxSteps:=999999) (disch:=omega) only[go_sem,simprocAttr, *] | ((first | refine wz8 (fun hh => ?_) (fun hh => ?_) | refine wz9 (fun hh => ?_) (fun hh => ?_) | refine wz7 (fun hh => ?_) (fun hh => ?_)) <;> (try replace hh := vqs hh) <;> (try (exfalso; first | exact hh | omega))))
        obtain ⟨l, hl⟩ := atN_clos n w
        have hs1 := stripNI n (atN n w)
        rw [List.take_of_length_le (by omega)]
        refine evB_plain bo26 rfl rfl hs1 (ends_ok' n (atN n w) hr (fun s hs => clos_in (l := l) (by rw [← hl]; exact hs)) (by have := hal w; omega)) ?_
        repeat' (first | refine wz1 ?_ | refine wz2 ?_ | refine wz3 ?_ | refine wz4 ?_ | refine wz5 ?_ | refine wz6 ?_ | simp -dsimp (maxSteps:=999999) (disch:=omega) only[go_sem,simprocAttr, *] | ((first | refine wz8 (fun hh => ?_) (fun hh => ?_) | refine wz9 (fun hh => ?_) (fun hh => ?_) | refine wz7 (fun hh => ?_) (fun hh => ?_)) <;> (try replace hh := vqs hh) <;> (try (exfalso; first | exact hh | omega))))
end Go.Proofs.W
end
/- A machine in the making: how it lies in memory. -/
section
set_option maxHeartbeats 4000000
set_option linter.unusedVariables false
set_option linter.unusedSimpArgs false
namespace Go.Proofs.W
open Go Vm Go.Proofs.Zsb6

/-- what a list of values leads to -/
def own (L : List D) (r : Nat) : Prop := ∃ k, r ∈ objsD (L.getD k ud)
def Apart (L : List D) : Prop := ∀ i j, i ≠ j → ∀ r, r ∈ objsD (L.getD i ud) → r ∉ objsD (L.getD j ud)
structure Mv6 (L : List D) (H : Heap) (L' : List D) (H' : Heap) : Prop where
  keep : ∀ r, r < H.length → ¬ own L r → hget H' r = hget H r
  len : H.length ≤ H'.length
  ow : ∀ r, own L' r → own L r ∨ H.length ≤ r
theorem Mv6.refl {L : List D} {H : Heap} : Mv6 L H L H := ⟨fun _ _ _ => rfl, Nat.le_refl _, fun _ h => .inl h⟩
theorem Mv6.trans {L L1 L2 : List D} {H H1 H2 : Heap} (h : Mv6 L H L1 H1) (g : Mv6 L1 H1 L2 H2) : Mv6 L H L2 H2 := by
  refine ⟨fun r hr ho => ?_, Nat.le_trans h.len g.len, fun r ho => ?_⟩
  · rw [g.keep r (by have := h.len; omega) fun h1 => ?_, h.keep r hr ho]
    rcases h.ow r h1 with h2 | h2
    · exact ho h2
    · omega
  · rcases g.ow r ho with h1 | h1
    · exact h.ow r h1
    · exact .inr (by have := h.len; omega)
theorem vec_lt {d : D} {H : Heap} {xs : List D} (h : VecIs d H xs) {r : Nat} (hr : r ∈ objsD d) : r < H.length := by
  rcases h with ⟨_, rfl⟩ | ⟨_, r', rfl, _, h4⟩
  · cases hr
  · simp [objsD] at hr; omega
theorem vec_keep {d : D} {H H' : Heap} {xs : List D} (h : VecIs d H xs) (hl : H.length ≤ H'.length) (hk : ∀ r ∈ objsD d, hget H' r = hget H r) : VecIs d H' xs := by
  rcases h with h | ⟨h1, r, rfl, h3, h4⟩
  · exact .inl h
  · exact .inr ⟨h1, r, rfl, by rw [hk r (by simp [objsD]), h3], by omega⟩
theorem vec_one {d : D} {H : Heap} {xs : List D} (h : VecIs d H xs) : d.cells = [d] ∧ aggQ d = false ∧ noTup d = true := by
  rcases h with ⟨_, rfl⟩ | ⟨_, r, rfl, _, _⟩ <;> exact ⟨rfl, rfl, rfl⟩
theorem vec_get {d : D} {H : Heap} {xs : List D} (h : VecIs d H xs) (hx : xs ≠ []) : ∃ r, d = .vec r 0 xs.length ∧ hget H r = .arr xs ∧ r < H.length := by
  rcases h with ⟨h1, _⟩ | ⟨_, h⟩
  · exact absurd h1 hx
  · exact h
/-- one more behind a list: the list lies anew -/
theorem app_vec {t e : TypeId} {n w : Nat} {z d q y : D} {H0 H : Heap} {xs : List D} (he : elemT Try.prog t = some e) (hn : sizeT Try.prog e = some n) (hw : bytesT Try.prog e = some w) (hz : zeroT Try.prog e = some z) (hzn : z.cells.length = n) (hw0 : w ≠ 0)
    (h : VecIs d H0 xs) (hH : H0.length ≤ H.length) (hHk : ∀ r ∈ objsD d, hget H r = hget H0 r) (hadd : addedD H y = some ([q], H)) (hq : q.cells.length = n) (hx : headSize n xs = true) (hm : (xs.length + 1) * w ≤ 140737488355328) :
    ∃ d' H', appendD Try.prog t H d y = some (d', H') ∧ VecIs d' H' (xs ++ [q]) ∧ H.length ≤ H'.length ∧ (∀ r, r < H.length → r ∉ objsD d → hget H' r = hget H r) ∧ (∀ r ∈ objsD d', H.length ≤ r) := by
  replace h := vec_keep h hH hHk
  have hqs : headSize n [q] = true := by simp [headSize, hq]
  rcases h with ⟨rfl, rfl⟩ | ⟨h1, r, rfl, h3, h4⟩
  · refine ⟨.vec H.length 0 1, H ++ [Ob.arr [q]], ?_, .inr ⟨by simp, H.length, by simp, by rw [hget_app0]; rfl, by simp⟩, by simp, fun r hr _ => hget_app_lt hr, fun r hr => by simp [objsD] at hr; omega⟩
    simp only [appendD, he, hn, hw, hz, Option.bind_some, hadd, hzn]
    simp [hw0, hqs, headSize, mostBytes]
    exact ⟨hq, by simpa using hm⟩
  · have hne : xs.isEmpty = false := by simpa using h1
    refine ⟨.vec H.length 0 (xs.length + 1), H.set r Ob.dead ++ [Ob.arr (xs ++ [q])], ?_, .inr ⟨by simp, H.length, by simp, ?_, by simp⟩, by simp, fun k hk ho => ?_, fun r hr => by simp [objsD] at hr; omega⟩
    · simp only [appendD, he, hn, hw, hz, Option.bind_some, hadd, hzn]
      simp [hw0, hqs, h3, hx, hne, hm, mostBytes]
    · have := hget_app0 (H := H.set r Ob.dead) (L := [Ob.arr (xs ++ [q])])
      rw [List.length_set] at this
      rw [this]; rfl
    · rw [hget_app_lt (by simpa using hk), hget_set_ne (by simp [objsD] at ho; omega)]
theorem add_new {H : Heap} {q : D} (hs : strip q = some q ∨ q = .sl true []) : addedD (H ++ [.arr [q]]) (.vec H.length 0 1) = some ([q], H ++ [.arr [q]]) := by
  rcases hs with hs | rfl
  · have : pures (H ++ [.arr [q]]) [q] = some ([q], H ++ [.arr [q]]) := pures_strip (by simp [stripL, hs])
    simp [addedD, elems, hget_app0, hget_cons0, this, puresA, nilE_strip hs]
  · simp [addedD, elems, hget_app0, hget_cons0, puresA, nilE]
theorem add_lit {H : Heap} {q : D} (hs : strip q = some q) : addedD H (.sl false [q]) = some ([q], H) := by
  have : pures H [q] = some ([q], H) := pures_strip (by simp [stripL, hs])
  simp [addedD, elems, this, puresA, nilE_strip hs]
end Go.Proofs.W
end
/- A machine in the making: what appends and stores turn. -/
section
set_option maxHeartbeats 4000000
set_option linter.unusedVariables false
set_option linter.unusedSimpArgs false
namespace Go.Proofs.W
open Go Vm Go.Proofs.Zsb6

theorem getD_set {α : Type} {l : List α} {p i : Nat} {x d : α} : (l.set p x).getD i d = if p = i ∧ p < l.length then x else l.getD i d := by
  simp only [List.getD_eq_getElem?_getD, List.getElem?_set]
  by_cases h : p = i
  · subst h
    by_cases hp : p < l.length
    · simp [hp]
    · simp [hp]
  · simp [h]
theorem getD_push {α : Type} {l : List α} {i : Nat} {x d : α} : (l ++ [x]).getD i d = if i = l.length then x else l.getD i d := by
  simp only [List.getD_eq_getElem?_getD]
  by_cases h : i < l.length
  · rw [List.getElem?_append_left h, if_neg (by omega)]
  · by_cases e : i = l.length
    · subst e; simp
    · rw [List.getElem?_append_right (by omega), if_neg e]
      simp [show ¬ (i - l.length < 1) by omega, List.getElem?_eq_none (show l.length ≤ i by omega), List.getElem?_eq_none (show [x].length ≤ i - l.length by simp; omega)]
structure Ms (M : Nat) (ds : List D) (X : List (List D)) (H : Heap) : Prop where
  v : ∀ i, i < ds.length → VecIs (ds.getD i ud) H (X.getD i [])
  lenX : X.length = ds.length
  ap : Apart (.ptr M 0 0 :: ds)
  m : M < H.length
theorem Ms.notM {M : Nat} {ds : List D} {X : List (List D)} {H : Heap} (h : Ms M ds X H) {i : Nat} : M ∉ objsD (ds.getD i ud) :=
  h.ap 0 (i + 1) (by omega) M (by simp [objsD])
theorem Ms.lt {M : Nat} {ds : List D} {X : List (List D)} {H : Heap} (h : Ms M ds X H) {i r : Nat} (hr : r ∈ objsD (ds.getD i ud)) : r < H.length := by
  rcases Nat.lt_or_ge i ds.length with hi | hi
  · exact vec_lt (h.v i hi) hr
  · rw [List.getD_eq_getElem?_getD, List.getElem?_eq_none hi] at hr; cases hr
theorem Ms.app {M : Nat} {ds : List D} {X : List (List D)} {H H1 : Heap} (h : Ms M ds X H) {p : Nat} (hp : p < ds.length) {t e : TypeId} {n w : Nat} {z q y : D} (he : elemT Try.prog t = some e) (hn : sizeT Try.prog e = some n) (hw : bytesT Try.prog e = some w) (hz : zeroT Try.prog e = some z) (hzn : z.cells.length = n) (hw0 : w ≠ 0)
    (hH : H.length ≤ H1.length) (hHk : ∀ r, r < H.length → hget H1 r = hget H r) (hadd : addedD H1 y = some ([q], H1)) (hq : q.cells.length = n) (hx : headSize n (X.getD p []) = true) (hm : ((X.getD p []).length + 1) * w ≤ 140737488355328) :
    ∃ d' H2, appendD Try.prog t H1 (ds.getD p ud) y = some (d', H2) ∧ Ms M (ds.set p d') (X.set p (X.getD p [] ++ [q])) H2 ∧ hget H2 M = hget H M ∧ H1.length ≤ H2.length ∧ (∀ r, r < H.length → r ∉ objsD (ds.getD p ud) → hget H2 r = hget H r) ∧ (∀ r ∈ objsD d', H.length ≤ r) ∧ d'.cells = [d'] ∧ aggQ d' = false ∧ noTup d' = true := by
  obtain ⟨d', H2, h1, h2, h3, h4, h5⟩ := app_vec he hn hw hz hzn hw0 (h.v p hp) hH (fun r hr => hHk r (h.lt hr)) hadd hq hx hm
  have hk : ∀ r, r < H.length → r ∉ objsD (ds.getD p ud) → hget H2 r = hget H r := fun r hr ho => by rw [h4 r (by omega) ho, hHk r hr]
  obtain ⟨o1, o2, o3⟩ := vec_one h2
  refine ⟨d', H2, h1, ⟨fun i hi => ?_, by simp [h.lenX], fun i j hij r hi hj => ?_, by have := h.m; omega⟩, hk M h.m h.notM, h3, hk, fun r hr => by have := h5 r hr; omega, o1, o2, o3⟩
  · rw [getD_set, getD_set, h.lenX]
    by_cases e : p = i ∧ p < ds.length
    · rw [if_pos e, if_pos e]; exact h2
    · rw [if_neg e, if_neg e]
      simp at hi
      refine vec_keep (h.v i hi) (by omega) fun r hr => hk r (h.lt hr) ?_
      exact h.ap (i + 1) (p + 1) (by simp [hp] at e; omega) r (by simpa using hr)
  · cases i with
    | zero =>
      cases j with
      | zero => exact hij rfl
      | succ j =>
        have e0 : r = M := by simpa [objsD] using hi
        subst e0
        rw [List.getD_cons_succ, getD_set] at hj
        split at hj
        · have := h5 _ hj; have := h.m; omega
        · exact h.notM hj
    | succ i =>
      cases j with
      | zero =>
        have e0 : r = M := by simpa [objsD] using hj
        subst e0
        rw [List.getD_cons_succ, getD_set] at hi
        split at hi
        · have := h5 _ hi; have := h.m; omega
        · exact h.notM hi
      | succ j =>
        simp only [List.getD_cons_succ] at hi hj
        rw [getD_set] at hi hj
        split at hi
        · rename_i hpi
          split at hj
          · omega
          · have := h5 _ hi; have := h.lt hj; omega
        · split at hj
          · have := h5 _ hj; have := h.lt hi; omega
          · exact h.ap (i + 1) (j + 1) hij r (by simpa using hi) (by simpa using hj)
theorem Ms.setM {M : Nat} {ds : List D} {X : List (List D)} {H : Heap} (h : Ms M ds X H) (ob : Ob) : Ms M ds X (H.set M ob) :=
  ⟨fun i hi => vec_keep (h.v i hi) (by simp) fun r hr => hget_set_ne (fun e => h.notM (i := i) (by rw [e]; exact hr)), h.lenX, h.ap, by simpa using h.m⟩
theorem Ms.setv {M : Nat} {ds : List D} {X : List (List D)} {H : Heap} (h : Ms M ds X H) {p r n : Nat} (hp : p < ds.length) (hd : ds.getD p ud = .vec r 0 n) {xs : List D} (hx : xs.length = n) (hn : 0 < n) : Ms M ds (X.set p xs) (H.set r (.arr xs)) := by
  have hr : r ∈ objsD (ds.getD p ud) := by rw [hd]; simp [objsD]
  have hrl := h.lt hr
  refine ⟨fun i hi => ?_, by simp [h.lenX], h.ap, by simpa using h.m⟩
  rw [getD_set, h.lenX]
  by_cases e : p = i ∧ p < ds.length
  · rw [if_pos e, ← e.1, hd]
    exact .inr ⟨fun h0 => by subst h0; simp at hx; omega, r, by rw [hx], hget_set_eq hrl, by simpa using hrl⟩
  · rw [if_neg e]
    refine vec_keep (h.v i hi) (by simp) fun r' hr' => hget_set_ne fun e2 => ?_
    subst e2
    exact h.ap (i + 1) (p + 1) (by simp [hp] at e; omega) _ (by simpa using hr') (by simpa using hr)
theorem Ms.push {M : Nat} {ds : List D} {X : List (List D)} {H : Heap} (h : Ms M ds X H) : Ms M (ds ++ [.sl true []]) (X ++ [[]]) H := by
  have ho : ∀ i r, r ∈ objsD ((ds ++ [D.sl true []]).getD i ud) → r ∈ objsD (ds.getD i ud) := fun i r hr => by
    rw [getD_push] at hr
    split at hr
    · cases hr
    · exact hr
  refine ⟨fun i hi => ?_, by simp [h.lenX], fun i j hij r hi hj => ?_, h.m⟩
  · rw [getD_push, getD_push, h.lenX]
    by_cases e : i = ds.length
    · rw [if_pos e, if_pos e]; exact VecIs.nil
    · rw [if_neg e, if_neg e]
      simp at hi
      exact h.v i (by omega)
  · refine h.ap i j hij r ?_ ?_
    · cases i with
      | zero => exact hi
      | succ i => exact ho i r hi
    · cases j with
      | zero => exact hj
      | succ j => exact ho j r hj
end Go.Proofs.W
end
/- A machine in the making: a new state, a free step. -/
section
set_option maxHeartbeats 4000000
set_option linter.unusedVariables false
set_option linter.unusedSimpArgs false
namespace Go.Proofs.W
open Go Vm Go.Proofs.Zsb6

def nfaX (n : Nfa) (fs : List D) : List (List D) := fs :: n.set.map (.int .u16) :: n.to.map (.int .i64) :: n.rule.map (.int .i64) :: n.free.map fun l => l.map (.int .i64)
structure MkAt (M : Nat) (n : Nfa) (ds : List D) (H : Heap) : Prop where
  ms : Ms M ds (nfaX n (ds.drop 4)) H
  hM : hget H M = .arr [.agg (ds.take 4)]
  len : 4 ≤ ds.length
  lS : n.free.length = n.set.length
  lT : n.to.length = n.set.length
  lR : n.rule.length = n.set.length
abbrev mkL (M : Nat) (ds : List D) : List D := .ptr M 0 0 :: ds
def addState (n : Nfa) : Nfa := ⟨n.free ++ [[]], n.set ++ [0], n.to ++ [0], n.rule ++ [-1]⟩
theorem ds_four {ds : List D} (h : 4 ≤ ds.length) : ∃ a b c d fs, ds = a :: b :: c :: d :: fs := by
  match ds, h with
  | a :: b :: c :: d :: fs, _ => exact ⟨a, b, c, d, fs, rfl⟩
theorem headU16 (l : List Int) : headSize 1 (l.map (D.int .u16)) = true := by cases l <;> rfl
theorem own_lt {M : Nat} {ds : List D} {X : List (List D)} {H : Heap} (h : Ms M ds X H) {r : Nat} (hr : own (mkL M ds) r) : r < H.length := by
  obtain ⟨k, hk⟩ := hr
  cases k with
  | zero => have : r = M := by simpa [objsD] using hk
            subst this; exact h.m
  | succ k => exact h.lt (i := k) (by simpa using hk)
theorem state_ok (M : Nat) (n : Nfa) (ds : List D) (H : Heap) (h : MkAt M n ds H) (hk : n.set.length ≤ 100000) :
    EvF Try.prog A 15 [.ptr M 0 0] H (fun d H' => d = .int .i64 n.set.length ∧ ∃ ds', MkAt M (addState n) ds' H' ∧ Mv6 (mkL M ds) H (mkL M ds') H') (fun _ _ => False) := by
  obtain ⟨ms, hM, hlen, lS, lT, lR⟩ := h
  obtain ⟨dF, dS, dT, dR, fs, rfl⟩ := ds_four hlen
  have hfl : fs.length = n.free.length := by have := ms.lenX; simp [nfaX] at this; omega
  have hfh : headSize 1 fs = true := by
    cases fs with
    | nil => rfl
    | cons x fs =>
      have := (vec_one (ms.v 4 (by simp))).1
      simp at this
      simp [headSize, this]
  simp only [List.take_succ_cons, List.take_zero, List.drop_succ_cons, List.drop_zero] at ms hM
  have hMl := ms.m
  obtain ⟨d1, H1, a1, m1, M1, l1, k1, f1, o1, o2, o3⟩ := ms.app (p := 0) (by simp) (H1 := H ++ [.arr [.sl true []]]) el25 sz27 by27 zr27 rfl (by decide) (by simp) (fun r hr => hget_app_lt hr) (add_new (.inr rfl)) rfl hfh (by simp [nfaX]; omega)
  rw [hM] at M1
  have w1 := m1.m
  have c1 : hget (H1.set M (.arr [.agg [d1, dS, dT, dR]])) M = .arr [.agg [d1, dS, dT, dR]] := hget_set_eq w1
  have e1 : (H1.set M (.arr [.agg [d1, dS, dT, dR]])).length = H1.length := by simp
  have z1 : ∀ r, r ≠ M → hget (H1.set M (.arr [.agg [d1, dS, dT, dR]])) r = hget H1 r := fun r h => hget_set_ne (Ne.symm h)
  replace m1 := m1.setM (.arr [.agg [d1, dS, dT, dR]])
  generalize hG1 : H1.set M (.arr [.agg [d1, dS, dT, dR]]) = J1 at m1 c1 e1 z1
  obtain ⟨d2, H2, a2, m2, M2, l2, k2, f2, p1, p2, p3⟩ := m1.app (p := 1) (by simp) (H1 := J1 ++ [.arr [.int .u16 0]]) el26 sz36 by36 zr36 rfl (by decide) (by simp) (fun r hr => hget_app_lt hr) (add_new (.inl rfl)) rfl (by simpa [nfaX] using headU16 n.set) (by simp [nfaX]; omega)
  rw [c1] at M2
  have w2 := m2.m
  have c2 : hget (H2.set M (.arr [.agg [d1, d2, dT, dR]])) M = .arr [.agg [d1, d2, dT, dR]] := hget_set_eq w2
  have e2 : (H2.set M (.arr [.agg [d1, d2, dT, dR]])).length = H2.length := by simp
  have z2 : ∀ r, r ≠ M → hget (H2.set M (.arr [.agg [d1, d2, dT, dR]])) r = hget H2 r := fun r h => hget_set_ne (Ne.symm h)
  replace m2 := m2.setM (.arr [.agg [d1, d2, dT, dR]])
  generalize hG2 : H2.set M (.arr [.agg [d1, d2, dT, dR]]) = J2 at m2 c2 e2 z2
  obtain ⟨d3, H3, a3, m3, M3, l3, k3, f3, q1, q2, q3⟩ := m2.app (p := 2) (by simp) (H1 := J2 ++ [.arr [.int .i64 0]]) el27 sz3 by3 zr3 rfl (by decide) (by simp) (fun r hr => hget_app_lt hr) (add_new (.inl rfl)) rfl (by simpa [nfaX] using headInts n.to) (by simp [nfaX]; omega)
  rw [c2] at M3
  have w3 := m3.m
  have c3 : hget (H3.set M (.arr [.agg [d1, d2, d3, dR]])) M = .arr [.agg [d1, d2, d3, dR]] := hget_set_eq w3
  have e3 : (H3.set M (.arr [.agg [d1, d2, d3, dR]])).length = H3.length := by simp
  have z3 : ∀ r, r ≠ M → hget (H3.set M (.arr [.agg [d1, d2, d3, dR]])) r = hget H3 r := fun r h => hget_set_ne (Ne.symm h)
  replace m3 := m3.setM (.arr [.agg [d1, d2, d3, dR]])
  generalize hG3 : H3.set M (.arr [.agg [d1, d2, d3, dR]]) = J3 at m3 c3 e3 z3
  obtain ⟨d4, H4, a4, m4, M4, l4, k4, f4, r1, r2, r3⟩ := m3.app (p := 3) (by simp) (H1 := J3 ++ [.arr [.int .i64 (-1)]]) el27 sz3 by3 zr3 rfl (by decide) (by simp) (fun r hr => hget_app_lt hr) (add_new (.inl rfl)) rfl (by simpa [nfaX] using headInts n.rule) (by simp [nfaX]; omega)
  rw [c3] at M4
  have w4 := m4.m
  have c4 : hget (H4.set M (.arr [.agg [d1, d2, d3, d4]])) M = .arr [.agg [d1, d2, d3, d4]] := hget_set_eq w4
  have e4 : (H4.set M (.arr [.agg [d1, d2, d3, d4]])).length = H4.length := by simp
  have z4 : ∀ r, r ≠ M → hget (H4.set M (.arr [.agg [d1, d2, d3, d4]])) r = hget H4 r := fun r h => hget_set_ne (Ne.symm h)
  replace m4 := m4.setM (.arr [.agg [d1, d2, d3, d4]])
  generalize hG4 : H4.set M (.arr [.agg [d1, d2, d3, d4]]) = J4 at m4 c4 e4 z4
  have m5 := m4.push
  simp only [List.set_cons_zero, List.set_cons_succ, List.getD_cons_zero, List.getD_cons_succ, nfaX, List.cons_append] at m5 a1 a2 a3 a4
  obtain ⟨rS, hdS, hgS, hrS⟩ := vec_get (m5.v 1 (by simp)) (by simp)
  simp only [List.getD_cons_zero, List.getD_cons_succ, List.length_append, List.length_map, List.length_cons, List.length_nil] at hdS hgS
  have hlen2 : ∀ HH, lenU (some (TypeDesc.slice 36)) HH d2 = some (n.set.length + 1) := fun HH => by rw [hdS]; rfl
  clear hdS hgS hrS rS
  have htail : ∃ ds', MkAt M (addState n) ds' J4 ∧ Mv6 (mkL M (dF :: dS :: dT :: dR :: fs)) H (mkL M ds') J4 := by
    have o1' : ∀ r, own (mkL M (dF :: dS :: dT :: dR :: fs)) r → r < H.length := fun r hr => own_lt ms hr
    have no : ∀ r, r < H.length → ¬ own (mkL M (dF :: dS :: dT :: dR :: fs)) r → r ≠ M ∧ ∀ i, r ∉ objsD ((dF :: dS :: dT :: dR :: fs).getD i ud) := fun r hr ho => ⟨fun e => ho ⟨0, by simp [objsD, e]⟩, fun i hi => ho ⟨i + 1, by simpa using hi⟩⟩
    have n1 := no
    refine ⟨d1 :: d2 :: d3 :: d4 :: (fs ++ [.sl true []]), ⟨?_, by simpa using c4, by simp, by simp [addState, lS], by simp [addState, lT], by simp [addState, lR]⟩, ⟨fun r hr ho => ?_, by simp at l1 l2 l3 l4; omega, fun r hr => ?_⟩⟩
    · simpa [nfaX, addState] using m5
    · obtain ⟨hrM, hi⟩ := no r hr ho
      simp only [List.set_cons_zero, List.set_cons_succ, List.getD_cons_zero, List.getD_cons_succ] at k1 k2 k3 k4 f1 f2 f3 f4
      simp at l1 l2 l3 l4
      rw [z4 r hrM, k4 r (by omega) (by simpa using hi 3), z3 r hrM, k3 r (by omega) (by simpa using hi 2), z2 r hrM, k2 r (by omega) (by simpa using hi 1), z1 r hrM, k1 r hr (by simpa using hi 0)]
    · obtain ⟨k, hk'⟩ := hr
      simp at l1 l2 l3 l4
      match k, hk' with
      | 0, hk' => exact .inl ⟨0, hk'⟩
      | 1, hk' => exact .inr (f1 r (by simpa using hk'))
      | 2, hk' => have := f2 r (by simpa using hk'); exact .inr (by omega)
      | 3, hk' => have := f3 r (by simpa using hk'); exact .inr (by omega)
      | 4, hk' => have := f4 r (by simpa using hk'); exact .inr (by omega)
      | k + 5, hk' =>
        have h5 : r ∈ objsD ((fs ++ [D.sl true []]).getD k ud) := by simpa using hk'
        rw [getD_push] at h5
        split at h5
        · cases h5
        · exact .inl ⟨k + 5, by simpa using h5⟩
  clear m1 m2 m3 m4 m5 k1 k2 k3 k4 f1 f2 f3 f4 hfh e1 e2 e3 e4 z1 z2 z3 z4 l1 l2 l3 l4 ms w1 w2 w3 w4
  refine evF_inB (n := 54) (rs := [.tmp 2]) Try.func15 rfl rfl rfl rfl rfl rfl ?_
  (refine wz1 ?_; refine wz2 ?_; simp -dsimp (maxSteps:=999999) (disch:=omega) only[go_sem,simprocAttr, *])
  (refine wz1 ?_; refine wz2 ?_; simp -dsimp (maxSteps:=999999) (disch:=omega) only[go_sem,simprocAttr, *])
  (refine wz1 ?_; refine wz2 ?_; simp -dsimp (maxSteps:=999999) (disch:=omega) only[go_sem,simprocAttr, *])
  (refine wz1 ?_; refine wz2 ?_; simp -dsimp (maxSteps:=999999) (disch:=omega) only[go_sem,simprocAttr, *])
  (refine wz1 ?_; refine wz2 ?_; simp -dsimp (maxSteps:=999999) (disch:=omega) only[go_sem,simprocAttr, *])
  clear a1 a2 a3 a4 hG1 hG2 hG3 hG4 M1 M2 M3 M4 c1 c2 c3
  repeat' (first | refine wz1 ?_ | refine wz2 ?_ | refine wz3 ?_ | refine wz4 ?_ | refine wz5 ?_ | refine wz6 ?_ | simp -dsimp (maxSteps:=999999) (disch:=omega) only[go_sem,simprocAttr, *])
  try exact htail
end Go.Proofs.W
end
/- A machine in the making: a free step. -/
section
set_option maxHeartbeats 4000000
set_option linter.unusedVariables false
set_option linter.unusedSimpArgs false
namespace Go.Proofs.W
open Go Vm Go.Proofs.Zsb6

def addFree (n : Nfa) (f : Nat) (t : Int) : Nfa := { n with free := n.free.set f (n.free.getD f [] ++ [t]) }
theorem addFree_len (n : Nfa) (f : Nat) (t : Int) : (addFree n f t).set = n.set ∧ (addFree n f t).free.length = n.free.length := ⟨rfl, by simp [addFree]⟩
theorem free_ok (M : Nat) (n : Nfa) (ds : List D) (H : Heap) (h : MkAt M n ds H) (hk : n.set.length ≤ 100000) (f : Nat) (hf : f < n.set.length) (t : Int) (hfl : (n.free.getD f []).length ≤ 100000) :
    EvF Try.prog A 18 [.ptr M 0 0, .int .i64 f, .int .i64 t] H (fun _ H' => ∃ ds', MkAt M (addFree n f t) ds' H' ∧ Mv6 (mkL M ds) H (mkL M ds') H') (fun _ _ => False) := by
  obtain ⟨ms, hM, hlen, lS, lT, lR⟩ := h
  obtain ⟨dF, dS, dT, dR, fs, rfl⟩ := ds_four hlen
  have hfl2 : fs.length = n.free.length := by have := ms.lenX; simp [nfaX] at this; omega
  simp only [List.take_succ_cons, List.take_zero, List.drop_succ_cons, List.drop_zero] at ms hM
  have hMl := ms.m
  have hpf : f + 4 < (dF :: dS :: dT :: dR :: fs).length := by simp; omega
  have hget4 : (nfaX n fs).getD (f + 4) [] = (n.free.getD f []).map (.int .i64) := by
    simp only [nfaX, List.getD_cons_succ]
    simp only [List.getD_eq_getElem?_getD, List.getElem?_map]
    cases n.free[f]? <;> rfl
  obtain ⟨rF, hdF, hgF, hrF⟩ := vec_get (ms.v 0 (by simp)) (by simp [nfaX]; intro e; rw [e] at hfl2; simp at hfl2; omega)
  simp only [List.getD_cons_zero, nfaX] at hdF hgF
  obtain ⟨dE, hE⟩ : ∃ dE, fs[f]? = some dE := ⟨fs[f], List.getElem?_eq_getElem (by omega)⟩
  have hE2 : (dF :: dS :: dT :: dR :: fs).getD (f + 4) ud = dE := by simp [List.getD, hE]
  have vE := ms.v (f + 4) hpf
  rw [hE2, hget4] at vE
  obtain ⟨o1, o2, o3⟩ := vec_one vE
  obtain ⟨d1, H1, a1, m1, M1, l1, k1, f1, p1, p2, p3⟩ := ms.app (p := f + 4) hpf (H1 := H) el27 sz3 by3 zr3 rfl (by decide) (by simp) (fun r hr => rfl) (add_lit rfl) rfl (by rw [hget4]; exact headInts _) (by rw [hget4, List.length_map]; omega) (q := .int .i64 t) (y := .sl false [.int .i64 t])
  rw [hE2] at a1 k1
  have hfs : 0 < fs.length := by omega
  have rF_E : rF ∉ objsD dE := by
    have := ms.ap 1 (f + 5) (by omega) rF (by simp [hdF, objsD])
    rw [show (D.ptr M 0 0 :: dF :: dS :: dT :: dR :: fs).getD (f + 5) ud = dE from by simpa using hE2] at this
    exact this
  have M_E : M ∉ objsD dE := by have := ms.notM (i := f + 4); rwa [hE2] at this
  have hF1 := k1 rF hrF rF_E
  rw [hgF] at hF1
  rw [hM] at M1
  have hne : ∀ x ∈ objsD dE, x ≠ M := fun x hx e => M_E (by rw [← e]; exact hx)
  have hne2 : ∀ x ∈ objsD d1, x ≠ M := fun x hx e => by have := f1 x hx; omega
  have hvo : vecO (.arr fs) 1 = true := vecO_arr (fun e => by rw [e] at hfs; simp at hfs) (by
    cases fs with
    | nil => rfl
    | cons x fs =>
      have := (vec_one (ms.v 4 (by simp))).1
      simp at this
      simp [headSize, this])
  have hds : (dF :: dS :: dT :: dR :: fs).set (f + 4) d1 = dF :: dS :: dT :: dR :: fs.set f d1 := by simp
  rw [hds] at m1
  have m2 := m1.setv (p := 0) (r := rF) (n := fs.length) (by simp) (by simpa using hdF) (xs := fs.set f d1) (by simp) hfs
  have hX : ((nfaX n fs).set (f + 4) ((nfaX n fs).getD (f + 4) [] ++ [D.int IntKind.i64 t])).set 0 (fs.set f d1) = nfaX (addFree n f t) (fs.set f d1) := by
    rw [hget4]
    simp only [nfaX, addFree, List.set_cons_succ, List.set_cons_zero, List.map_set, List.map_append, List.map_cons, List.map_nil]
  rw [hX] at m2
  have hF0 : rF ≠ M := fun e => ms.notM (i := 0) (by simp [hdF, objsD, e])
  obtain ⟨dsN, hdN⟩ : ∃ dsN, dsN = dF :: dS :: dT :: dR :: fs.set f d1 := ⟨_, rfl⟩
  have hMk : MkAt M (addFree n f t) dsN (H1.set rF (.arr (fs.set f d1))) := by
    rw [hdN]
    refine ⟨by simpa using m2, ?_, by simp, by simpa [addFree] using lS, lT, lR⟩
    rw [hget_set_ne hF0, M1]; rfl
  have hMv : Mv6 (mkL M (dF :: dS :: dT :: dR :: fs)) H (mkL M dsN) (H1.set rF (.arr (fs.set f d1))) := by
    rw [hdN]
    refine ⟨fun r hr ho => ?_, by simpa using l1, fun r hr => ?_⟩
    · rw [hget_set_ne (fun e => ho ⟨1, by simp [hdF, objsD, ← e]⟩), k1 r hr fun h => ho ⟨f + 5, by simpa [hE] using h⟩]
    · obtain ⟨k, hk'⟩ := hr
      match k, hk' with
      | 0, hk' => exact .inl ⟨0, hk'⟩
      | 1, hk' => exact .inl ⟨1, hk'⟩
      | 2, hk' => exact .inl ⟨2, hk'⟩
      | 3, hk' => exact .inl ⟨3, hk'⟩
      | 4, hk' => exact .inl ⟨4, hk'⟩
      | k + 5, hk' =>
        have h5 : r ∈ objsD ((fs.set f d1).getD k ud) := by simpa using hk'
        rw [getD_set] at h5
        split at h5
        · exact .inr (f1 r h5)
        · exact .inl ⟨k + 5, by simpa using h5⟩
  clear m1 m2 hX hds hdN
  refine evF_inB (n := 24) (rs := []) Try.func18 rfl rfl rfl rfl rfl rfl ?_
  refine wpB_regionXL (prs := [([19, 22], [9])]) (by kernel_rfl) rfl (by kernel_rfl) ?_
  subst hdF
  simp -dsimp (maxSteps:=999999) (disch:=omega) only[go_sem,simprocAttr, *]
  have e9 : fs.length = n.set.length := by omega
  rw [e9] at hMv
  refine ⟨rfl, disP_iff.2 fun x hx y hy => ?_, dsN, hMk, hMv⟩
  have : y = M := by simpa using hy
  subst this
  rcases List.mem_append.1 hx with h | h
  · exact hne x h
  · exact hne2 x h
end Go.Proofs.W
end
/- The machine of an expression, as a function. -/
section
set_option maxHeartbeats 4000000
set_option linter.unusedVariables false
set_option linter.unusedSimpArgs false
namespace Go.Proofs.W
open Go Vm Go.Proofs.Zsb6

def setTo (n : Nfa) (i : Nat) (s : Int) (o : Nat) : Nfa := { n with set := n.set.set i s, to := n.to.set i (o : Int) }
def catW (o : Nat) : Nfa → Nat → List (Nat × Nat) → Nfa
  | n, last, [] => addFree n last o
  | n, last, p :: r => catW o (addFree n last p.1) p.2 r
def altW (i o : Nat) : Nfa → List (Nat × Nat) → Nfa
  | n, [] => n
  | n, p :: r => altW i o (addFree (addFree n i p.1) p.2 o) r
def optW (n : Nfa) (i o a b : Nat) : Nfa := addFree (addFree (addFree n i a) i o) b o
def wire (k s : Int) (i o : Nat) (ps : List (Nat × Nat)) (n : Nfa) : Nfa :=
  if k = 0 then addFree n i o else if k = 1 then setTo n i s o else if k = 2 then catW o n i ps else if k = 3 then altW i o n ps
  else match ps with
    | [] => n
    | p :: _ => if k = 4 then optW (addFree n p.2 p.1) i o p.1 p.2 else if k = 5 then optW n i o p.1 p.2 else n
mutual
def makeN : Rx → Nfa → Nfa × (Nat × Nat)
  | .mk k s l, n =>
    let q := kidsN l (addState n)
    (wire k s n.set.length q.1.set.length q.2 (addState q.1), (n.set.length, q.1.set.length))
def kidsN : List Rx → Nfa → Nfa × List (Nat × Nat)
  | [], n => (n, [])
  | r :: l, n =>
    let q := makeN r n
    let z := kidsN l q.1
    (z.1, q.2 :: z.2)
end
/-- how many states there are -/
abbrev kN (n : Nfa) : Nat := n.set.length
theorem addFree_k (n : Nfa) (f : Nat) (t : Int) : kN (addFree n f t) = kN n := rfl
theorem addState_k (n : Nfa) : kN (addState n) = kN n + 1 := by simp [kN, addState]
theorem setTo_k (n : Nfa) (i : Nat) (s : Int) (o : Nat) : kN (setTo n i s o) = kN n := by simp [kN, setTo]
theorem catW_k (o : Nat) : ∀ (ps : List (Nat × Nat)) (n : Nfa) (last : Nat), kN (catW o n last ps) = kN n
  | [], _, _ => rfl
  | p :: r, n, last => by rw [catW, catW_k o r]; rfl
theorem altW_k (i o : Nat) : ∀ (ps : List (Nat × Nat)) (n : Nfa), kN (altW i o n ps) = kN n
  | [], _ => rfl
  | p :: r, n => by rw [altW, altW_k i o r]; rfl
theorem wire_k (k s : Int) (i o : Nat) (ps : List (Nat × Nat)) (n : Nfa) : kN (wire k s i o ps n) = kN n := by
  unfold wire
  split
  · rfl
  split
  · exact setTo_k ..
  split
  · exact catW_k ..
  split
  · exact altW_k ..
  split
  · rfl
  split
  · rfl
  split
  · rfl
  · rfl
/-- how many free steps there are in all -/
def fN (n : Nfa) : Nat := (n.free.map List.length).sum
theorem le_fN {l : List (List Int)} {f : Nat} : (l.getD f []).length ≤ (l.map List.length).sum := by
  induction l generalizing f with
  | nil => simp
  | cons x l ih =>
    cases f with
    | zero => simp
    | succ f => have := ih (f := f); simp at this ⊢; omega
theorem fN_set {l : List (List Int)} {f : Nat} {t : Int} : ((l.set f (l.getD f [] ++ [t])).map List.length).sum ≤ (l.map List.length).sum + 1 := by
  induction l generalizing f with
  | nil => simp
  | cons x l ih =>
    cases f with
    | zero => simp; omega
    | succ f => have := ih (f := f); simp at this ⊢; omega
theorem addFree_f (n : Nfa) (f : Nat) (t : Int) : fN (addFree n f t) ≤ fN n + 1 := fN_set
theorem addState_f (n : Nfa) : fN (addState n) = fN n := by simp [fN, addState]
theorem setTo_f (n : Nfa) (i : Nat) (s : Int) (o : Nat) : fN (setTo n i s o) = fN n := rfl
theorem catW_f (o : Nat) : ∀ (ps : List (Nat × Nat)) (n : Nfa) (last : Nat), fN (catW o n last ps) ≤ fN n + ps.length + 1
  | [], n, last => by have := addFree_f n last o; simpa [catW] using this
  | p :: r, n, last => by
    have h1 := catW_f o r (addFree n last p.1) p.2
    have h2 := addFree_f n last p.1
    simp only [catW, List.length_cons]; omega
theorem altW_f (i o : Nat) : ∀ (ps : List (Nat × Nat)) (n : Nfa), fN (altW i o n ps) ≤ fN n + 2 * ps.length
  | [], n => by simp [altW]
  | p :: r, n => by
    have h1 := altW_f i o r (addFree (addFree n i p.1) p.2 o)
    have h2 := addFree_f n i p.1
    have h3 := addFree_f (addFree n i p.1) p.2 o
    simp only [altW, List.length_cons]; omega
theorem optW_f (n : Nfa) (i o a b : Nat) : fN (optW n i o a b) ≤ fN n + 3 := by
  have h1 := addFree_f n i a
  have h2 := addFree_f (addFree n i a) i o
  have h3 := addFree_f (addFree (addFree n i a) i o) b o
  unfold optW; omega
theorem wire_f (k s : Int) (i o : Nat) (ps : List (Nat × Nat)) (n : Nfa) : fN (wire k s i o ps n) ≤ fN n + 2 * ps.length + 4 := by
  unfold wire
  split
  · have := addFree_f n i o; omega
  split
  · rw [setTo_f]; omega
  split
  · have := catW_f o ps n i; omega
  split
  · have := altW_f i o ps n; omega
  split
  · omega
  split
  · rename_i p _ _
    have h1 := addFree_f n p.2 p.1
    have h2 := optW_f (addFree n p.2 p.1) i o p.1 p.2
    omega
  split
  · rename_i p _ _ _
    have h2 := optW_f n i o p.1 p.2
    omega
  · omega
mutual
theorem makeN_k : ∀ (r : Rx) (n : Nfa), kN (makeN r n).1 = kN n + 2 * sizeR r
  | .mk k s l, n => by
    simp only [makeN, sizeR, wire_k, addState_k, kidsN_k l]; omega
theorem kidsN_k : ∀ (l : List Rx) (n : Nfa), kN (kidsN l n).1 = kN n + 2 * sizeL l
  | [], n => by simp [kidsN, sizeL]
  | r :: l, n => by simp only [kidsN, sizeL, kidsN_k l, makeN_k r]; omega
end
theorem kidsN_len : ∀ (l : List Rx) (n : Nfa), (kidsN l n).2.length = l.length
  | [], n => rfl
  | r :: l, n => by simp [kidsN, kidsN_len l]
mutual
theorem makeN_f : ∀ (r : Rx) (n : Nfa), fN (makeN r n).1 + 2 ≤ fN n + 6 * sizeR r
  | .mk k s l, n => by
    have h1 := kidsN_f l (addState n)
    have h2 := wire_f k s n.set.length (kidsN l (addState n)).1.set.length (kidsN l (addState n)).2 (addState (kidsN l (addState n)).1)
    rw [kidsN_len, addState_f] at h2
    rw [addState_f] at h1
    simp only [makeN, sizeR]; omega
theorem kidsN_f : ∀ (l : List Rx) (n : Nfa), fN (kidsN l n).1 + 2 * l.length ≤ fN n + 6 * sizeL l
  | [], n => by simp [kidsN, sizeL]
  | r :: l, n => by
    have h1 := makeN_f r n
    have h2 := kidsN_f l (makeN r n).1
    simp only [kidsN, sizeL, List.length_cons]; omega
end
/-- where an expression's machine begins and ends -/
theorem makeN_io (r : Rx) (n : Nfa) : (makeN r n).2 = (kN n, kN n + 2 * sizeR r - 1) := by
  cases r with
  | mk k s l =>
    simp only [makeN, sizeR]
    have h1 := kidsN_k l (addState n)
    rw [addState_k] at h1
    simp only [kN] at h1 ⊢
    rw [Prod.mk.injEq]
    exact ⟨rfl, by omega⟩
theorem kidsN_in : ∀ (l : List Rx) (n : Nfa), ∀ p ∈ (kidsN l n).2, kN n ≤ p.1 ∧ p.1 < kN n + 2 * sizeL l ∧ kN n ≤ p.2 ∧ p.2 < kN n + 2 * sizeL l
  | [], n => by simp [kidsN]
  | r :: l, n => by
    intro p hp
    simp only [kidsN, List.mem_cons] at hp
    have hpos := sizeR_pos r
    rcases hp with rfl | hp
    · rw [makeN_io]; simp only [sizeL]; omega
    · have := kidsN_in l (makeN r n).1 p hp
      rw [makeN_k] at this
      simp only [sizeL]; omega
end Go.Proofs.W
end
/- The machine of an expression: those of its kids, walked. -/
section
set_option maxHeartbeats 4000000
set_option linter.unusedVariables false
set_option linter.unusedSimpArgs false
namespace Go.Proofs.W
open Go Vm Go.Proofs.Zsb6

theorem MkAt.keep {M : Nat} {n : Nfa} {ds : List D} {H H' : Heap} (h : MkAt M n ds H) (hl : H.length ≤ H'.length) (hk : ∀ r, own (mkL M ds) r → hget H' r = hget H r) : MkAt M n ds H' :=
  ⟨⟨fun i hi => vec_keep (h.ms.v i hi) hl fun r hr => hk r ⟨i + 1, by simpa using hr⟩, h.ms.lenX, h.ms.ap, by have := h.ms.m; omega⟩, by rw [hk M ⟨0, by simp [objsD]⟩]; exact h.hM, h.len, h.lS, h.lT, h.lR⟩
theorem kidsN_snoc (r : Rx) : ∀ (a : List Rx) (n : Nfa), kidsN (a ++ [r]) n = ((makeN r (kidsN a n).1).1, (kidsN a n).2 ++ [(makeN r (kidsN a n).1).2])
  | [], n => by simp [kidsN]
  | x :: a, n => by simp only [List.cons_append, kidsN, kidsN_snoc r a]
theorem sizeL_app (b : List Rx) : ∀ (a : List Rx), sizeL (a ++ b) = sizeL a + sizeL b
  | [] => by simp [sizeL]
  | x :: a => by simp only [List.cons_append, sizeL, sizeL_app b a]; omega
def pD (p : Nat × Nat) : D := .agg [.int .i64 p.1, .int .i64 p.2]
def psD (l : List (Nat × Nat)) : List D := l.map pD
theorem strip_pD (p : Nat × Nat) : strip (pD p) = some (pD p) := rfl
theorem headPs (l : List (Nat × Nat)) : headSize 2 (psD l) = true := by cases l <;> rfl
def MakeOk (r : Rx) : Prop := ∀ (M : Nat) (n : Nfa) (ds : List D) (H : Heap), MkAt M n ds H → kN n + 2 * sizeR r ≤ 90000 → fN n + 6 * sizeR r ≤ 90000 →
  EvF Try.prog A 17 [.ptr M 0 0, rxD r] H (fun d H' => d = .tup [.int .i64 ((makeN r n).2.1 : Nat), .int .i64 ((makeN r n).2.2 : Nat)] ∧ ∃ ds', MkAt M (makeN r n).1 ds' H' ∧ Mv6 (mkL M ds) H (mkL M ds') H') (fun _ _ => False)
def KidsQ (M : Nat) (n : Nfa) (ds : List D) (H : Heap) (q : Nfa × List (Nat × Nat)) (d : D) (H' : Heap) : Prop := ∃ ds', MkAt M q.1 ds' H' ∧ Mv6 (mkL M ds) H (mkL M ds') H' ∧ VecIs d H' (psD q.2) ∧ ∀ r ∈ objsD d, H.length ≤ r ∧ ¬ own (mkL M ds') r
theorem kids_ok (k s : Int) (l : List Rx) (hl : ∀ r ∈ l, MakeOk r) (hll : l.length ≤ 100000) (M : Nat) (n : Nfa) (ds : List D) (H : Heap) (h : MkAt M n ds H) (b1 : kN n + 2 * sizeL l ≤ 90000) (b2 : fN n + 6 * sizeL l ≤ 90000) :
    EvF Try.prog A 28 [.ptr M 0 0, rxD (.mk k s l)] H (fun d H' => KidsQ M n ds H (kidsN l n) d H') (fun _ _ => False) := by
  have hMl := h.ms.m
  refine evF_inB (n := 31) (rs := [.tmp 4]) Try.func28 rfl rfl rfl rfl rfl rfl ?_
  repeat' (first | refine wz1 ?_ | refine wz2 ?_ | refine wz3 ?_ | refine wz4 ?_ | refine wz5 ?_ | refine wz6 ?_ | simp -dsimp (maxSteps:=999999) (disch:=omega) only[go_sem,simprocAttr, *] | ((first | refine wz8 (fun hh => ?_) (fun hh => ?_) | refine wz9 (fun hh => ?_) (fun hh => ?_) | refine wz7 (fun hh => ?_) (fun hh => ?_)) <;> (try replace hh := vqs hh) <;> (try (exfalso; first | exact hh | omega))))
  have hb0 : MkAt M (kidsN (l.take 0) n).1 ds (H ++ [Ob.arr [rxD (.mk k s l)]]) := h.keep (by simp) fun r hr => hget_app_lt (own_lt h.ms hr)
  refine wpB_loop (fun e Hj => ∃ (j : Nat) (dO : D) (dsj : List D), j ≤ l.length ∧ H.length ≤ Hj.length ∧ MkAt M (kidsN (l.take j) n).1 dsj Hj ∧ Mv6 (mkL M ds) H (mkL M dsj) Hj ∧ VecIs dO Hj (psD (kidsN (l.take j) n).2) ∧ (∀ r ∈ objsD dO, H.length ≤ r ∧ ¬ own (mkL M dsj) r)
    ∧ e 0 = .ptr M 0 0 ∧ e 5 = dO ∧ e 11 = .sl false (rxDs l) ∧ e 12 = .int .i64 l.length ∧ e 13 = .int .i64 j) (fun e H => l.length - natOf (e 13)) ?_ ?_
  · exact ⟨0, .sl true [], ds, by omega, by simp, by simpa [rx_mk] using hb0, ⟨fun r hr _ => hget_app_lt hr, by simp, fun r hr => .inl hr⟩, by simpa [kidsN, psD] using VecIs.nil, (fun r hr => by cases hr), gs, gs, gs, gs, gs⟩
  · clear hb0 h
    rintro e Hj ⟨j, dO, dsj, hj, hlen, hmk, hmv, hvO, hoO, e0, e5, e11, e12, e13⟩ R hR
    by_cases hb : j < l.length
    · have hx : (rxDs l)[j]? = some (rxD l[j]) := by rw [rxDs_at, List.getElem?_eq_getElem hb]; rfl
      have q1 := rx_cells l[j]
      have q2 := rx_aggQ l[j]
      have q3 := rx_noTup l[j]
      have htk := take_succ' hb
      have hsz := sizeL_app [l[j]] (l.take j)
      have hsz2 : sizeL (l.take (j + 1)) ≤ sizeL l := by
        have := sizeL_app (l.drop (j + 1)) (l.take (j + 1))
        rw [List.take_append_drop] at this; omega
      rw [htk, hsz] at hsz2
      simp only [sizeL] at hsz2
      have hkk := kidsN_k (l.take j) n
      have hff := kidsN_f (l.take j) n
      have hsn := kidsN_snoc l[j] (l.take j) n
      rw [← htk] at hsn
      have hcall := hl l[j] (List.getElem_mem hb) M (kidsN (l.take j) n).1 dsj (Hj ++ [Ob.arr [rxD l[j]]]) (hmk.keep (by simp) fun r hr => hget_app_lt (own_lt hmk.ms hr)) (by omega) (by omega)
      generalize hw : rxD l[j] = dk at *
      clear hw
      repeat' (first | refine wz1 ?_ | refine wz2 ?_ | refine wz3 ?_ | refine wz4 ?_ | refine wz5 ?_ | refine wz6 ?_ | simp -dsimp (maxSteps:=999999) (disch:=omega) only[go_sem,simprocAttr, *] | ((first | refine wz8 (fun hh => ?_) (fun hh => ?_) | refine wz9 (fun hh => ?_) (fun hh => ?_) | refine wz7 (fun hh => ?_) (fun hh => ?_)) <;> (try replace hh := vqs hh) <;> (try (exfalso; first | exact hh | omega))))
      refine evB_state bo17 rfl rfl hcall ?_ (fun _ _ h => h.elim)
      rintro _ H2 ⟨rfl, ds2, hmk2, hmv2⟩
      have hlen2 := hmv2.len
      simp only [List.length_append, List.length_cons, List.length_nil] at hlen2
      have hltO : ∀ r ∈ objsD dO, r < Hj.length := fun r hr => vec_lt hvO hr
      have hvO2 : VecIs dO H2 (psD (kidsN (l.take j) n).2) := vec_keep hvO (by omega) fun r hr => by
        rw [hmv2.keep r (by simp; have := hltO r hr; omega) (hoO r hr).2, hget_app_lt (hltO r hr)]
      have hoO2 : ∀ r ∈ objsD dO, ¬ own (mkL M ds2) r := fun r hr ho => by
        rcases hmv2.ow r ho with h | h
        · exact (hoO r hr).2 h
        · have := hltO r hr; simp at h; omega
      obtain ⟨d3, H3, a3, v3, l3, k3, f3⟩ := app_vec (H0 := H2) (H := H2 ++ [.arr [pD (makeN l[j] (kidsN (l.take j) n).1).2]]) el60 sz62 by62 zr62 rfl (by decide) hvO2 (by simp) (fun r hr => hget_app_lt (by have := hltO r hr; omega)) (add_new (.inl (strip_pD _))) rfl (headPs _) (by simp [psD, kidsN_len]; omega)
      simp only [List.length_append, List.length_cons, List.length_nil] at l3
      have hmk3 : MkAt M (kidsN (l.take (j + 1)) n).1 ds2 H3 := by
        rw [hsn]
        exact hmk2.keep (by omega) fun r hr => by
          have hlt := own_lt hmk2.ms hr
          rw [k3 r (by simp; omega) (fun h => hoO2 r h hr), hget_app_lt hlt]
      have hmv3 : Mv6 (mkL M ds) H (mkL M ds2) H3 := by
        refine ⟨fun r hr ho => ?_, by omega, fun r ho => ?_⟩
        · have n1 : r ∉ objsD dO := fun h => by have := (hoO r h).1; omega
          have n2 : ¬ own (mkL M dsj) r := fun h => by
            rcases hmv.ow r h with h | h
            · exact ho h
            · omega
          rw [k3 r (by simp; omega) n1, hget_app_lt (by omega), hmv2.keep r (by simp; omega) n2, hget_app_lt (by omega), hmv.keep r hr ho]
        · rcases hmv2.ow r ho with h | h
          · exact hmv.ow r h
          · exact .inr (by simp at h; omega)
      have v3' : VecIs d3 H3 (psD (kidsN (l.take (j + 1)) n).2) := by
        rw [hsn]
        simpa [psD] using v3
      have ho3 : ∀ r ∈ objsD d3, H.length ≤ r ∧ ¬ own (mkL M ds2) r := fun r hr => by
        have := f3 r hr
        simp at this
        exact ⟨by omega, fun ho => by have := own_lt hmk2.ms ho; omega⟩
      simp only [pD] at a3
      clear hsn hkk hff
      repeat' (first | refine wz1 ?_ | refine wz2 ?_ | refine wz3 ?_ | refine wz4 ?_ | refine wz5 ?_ | refine wz6 ?_ | simp -dsimp (maxSteps:=999999) (disch:=omega) only[go_sem,simprocAttr, *] | ((first | refine wz8 (fun hh => ?_) (fun hh => ?_) | refine wz9 (fun hh => ?_) (fun hh => ?_) | refine wz7 (fun hh => ?_) (fun hh => ?_)) <;> (try replace hh := vqs hh) <;> (try (exfalso; first | exact hh | omega))))
      refine hR _ _ ⟨j + 1, d3, ds2, by omega, by omega, hmk3, hmv3, v3', ho3, gs, gs, gs, gs, gs⟩ ?_
      simp -dsimp (maxSteps:=999999) (disch:=omega) only[go_sem,simprocAttr, *,natOf_int]
    · repeat' (first | refine wz1 ?_ | refine wz2 ?_ | refine wz3 ?_ | refine wz4 ?_ | refine wz5 ?_ | refine wz6 ?_ | simp -dsimp (maxSteps:=999999) (disch:=omega) only[go_sem,simprocAttr, *] | ((first | refine wz8 (fun hh => ?_) (fun hh => ?_) | refine wz9 (fun hh => ?_) (fun hh => ?_) | refine wz7 (fun hh => ?_) (fun hh => ?_)) <;> (try replace hh := vqs hh) <;> (try (exfalso; first | exact hh | omega))))
      rw [List.take_of_length_le (by omega)] at hmk hvO
      exact ⟨dsj, hmk, hmv, hvO, hoO⟩
end Go.Proofs.W
end
