/- Texts that stand behind this claim, one after the other. -/
import Derived.Test.YtgfmpdgdlmhmcaaDoorM5
import Derived.Test.YtgfmpdgdlmhmcaaDoorM7
/- The reader of expressions: what waits is done. -/
section
set_option maxHeartbeats 4000000
set_option linter.unusedVariables false
set_option linter.unusedSimpArgs false
namespace Go.Proofs.W
open Go Vm Go.Proofs.Zs05

theorem defer_ok {p m : Nat} {H : Heap} {s : List UInt8} {dp : Int} {rs : List ResultVar} {K Kp : D → Heap → Prop} {e : Env} {md : Md} (hb : hget H m = .arr [.ptr p 0 0]) (hr : RdAt H p s dp)
    (k : LvQ Tryd.prog A rs K Kp e [] md.settle (H.set p (.arr [.agg [.str s, .int .i64 (IntKind.i64.wrap (dp - 1))]]))) : LvQ Tryd.prog A rs K Kp e [.call 60 [.ptr m 0 0]] md H := by
  unfold RdAt at hr
  refine lvQ_call (n := 8) Tryd.func60 rfl rfl rfl rfl rfl (wpS_calm rfl ?_)
  repeat' (first | refine wpB_seq ?_ | refine wpB_regionL rfl ?_ | refine wpB_block ?_ | refine wpB_skip ?_ | refine wpB_exit ?_ | refine wpB_ret ?_ | simp (maxSteps := 1000000) (dsimp := false) (disch := omega) only [go_sem, simprocAttr, *])
theorem expr_step {n : Nat} (hE : ExprOk n) (hn2 : n ≤ 100000) : ExprOk (n + 1) := by
  intro H p s dp hn h
  have hp := h.lt
  refine evF_leaveB (n := 31) (rs := [.cell 2 40]) Tryd.func52 rfl rfl rfl rfl rfl ?_
  (refine wpB_seq ?_; refine wpB_regionL rfl ?_; simp (maxSteps := 1000000) (dsimp := false) (disch := omega) only [go_sem, simprocAttr, *])
  refine wpB_heap (fun H1 => Keep p H H1 ∧ RdAt H1 p s dp ∧ hget H1 H.length = .arr [.ptr p 0 0] ∧ hget H1 (H.length + 1) = .arr [.agg [.int .u8 0, .int .u16 0, .sl true []]]) ?_ ?_
  · refine ⟨Keep.refl.app.app, h.app.app, ?_, ?_⟩
    · rw [hget_app_lt (by simp)]; exact hget_new
    · have := hget_new (H := H ++ [Ob.arr [.ptr p 0 0]]) (ob := Ob.arr [.agg [.int .u8 0, .int .u16 0, .sl true []]]) (L := [])
      simpa using this
  · rintro H1 ⟨hk, hr, hb, ho⟩
    generalize hmm : H.length = m at *
    have hm : m ≠ p := by omega
    have hm1 : m + 1 ≠ p := by omega
    have hr' := hr
    unfold RdAt at hr'
    have hlp := hr.lt
    (refine wpB_seq ?_; refine wpB_regionL rfl ?_; simp (maxSteps := 1000000) (dsimp := false) (disch := omega) only [go_sem, simprocAttr, *])
    refine wpB_heap (fun H2 => Keep p H H2 ∧ (∃ dp, RdAt H2 p s dp) ∧ hget H2 m = .arr [.ptr p 0 0] ∧ hget H2 (m + 1) = .arr [.agg [.int .u8 0, .int .u16 0, .sl true []]]) ?_ ?_
    · exact ⟨hk.trans Keep.set, ⟨_, hget_set_eq hlp⟩, by rw [hget_set_ne (by omega), hb], by rw [hget_set_ne (by omega), ho]⟩
    · clear hk hr hb ho hr' hlp h H1
      rintro H1 ⟨hk, ⟨dp, hr⟩, hb, ho⟩
      have hr' := hr
      unfold RdAt at hr'
      have hdef : ∀ {e : Env} {d : D} {s1 : List UInt8} {dp1 : Int} {Hx : Heap}, Keep p H Hx → RdAt Hx p s1 dp1 → hget Hx m = .arr [.ptr p 0 0] → d = wrongD → LvQ Tryd.prog A [.cell 2 40] (RxQ p H (s.length + 1)) (PanQ p H) e [.call 60 [.ptr m 0 0]] (.pan d) Hx :=
        fun hk hr hb hd => defer_ok hb hr (lvQ_pan ⟨hd, hk.trans Keep.set, _, _, hget_set_eq hr.lt⟩)
      have hbo := bo60
      repeat' (first | refine wpB_seq ?_ | refine wpB_regionL rfl ?_ | refine wpB_block ?_ | refine wpB_skip ?_ | refine wpB_exit ?_ | refine wpB_ret ?_ | simp (maxSteps := 1000000) (dsimp := false) (disch := omega) only [go_sem, simprocAttr, *])
      refine wpB_cond (by simp (maxSteps := 1000000) (dsimp := false) (disch := omega) only [go_sem, simprocAttr, *]; exact rfl) (fun hb2 => ?_) (fun hb2 => ?_) <;> try simp (maxSteps := 1000000) (dsimp := false) (disch := omega) only [go_sem, simprocAttr, decide_eq_true_eq, decide_eq_false_iff_not, Bool.not_eq_true, Bool.not_eq_false, Int.not_lt, Int.not_le] at hb2
      · repeat' (first | refine wpB_seq ?_ | refine wpB_regionL rfl ?_ | refine wpB_block ?_ | refine wpB_skip ?_ | refine wpB_exit ?_ | refine wpB_ret ?_ | simp (maxSteps := 1000000) (dsimp := false) (disch := omega) only [go_sem, simprocAttr, *])
        exact leaveQ_pan rfl (hdef hk hr hb rfl)
      · repeat' (first | refine wpB_seq ?_ | refine wpB_regionL rfl ?_ | refine wpB_block ?_ | refine wpB_skip ?_ | refine wpB_exit ?_ | refine wpB_ret ?_ | simp (maxSteps := 1000000) (dsimp := false) (disch := omega) only [go_sem, simprocAttr, *])
        refine evB_state bo61 rfl rfl (alt_read hE (by omega) hn2 hr) ?_ (fun _ _ hp => ?_)
        · rintro d H2 ⟨r, s2, dp2, rfl, hok, hk2, hr2, hlt⟩
          have hb3 : hget H2 m = .arr [.ptr p 0 0] := by rw [hk2.same m (lt_of_hget hb) hm, hb]
          have ho3 : hget H2 (m + 1) = .arr [.agg [.int .u8 0, .int .u16 0, .sl true []]] := by rw [hk2.same (m + 1) (lt_of_hget ho) hm1, ho]
          have hk3 := hk.trans hk2
          have c1 := rx_cells r
          have c2 := rx_aggQ r
          have c3 := rx_noTup r
          have hl1 := lt_of_hget ho3
          have hv : VecAt (m + 2) (.vec H2.length 0 1) (H2 ++ [Ob.arr [rxD r]]) (rxDs [r]) := ⟨by simp; omega, .inr ⟨by simp [rxDs], H2.length, by omega, by simp, by simp [rxDs], hget_new⟩⟩
          have hr4 : RdAt (H2 ++ [Ob.arr [rxD r]]) p s2 dp2 := hr2.app
          have hk4 : Keep p H (H2 ++ [Ob.arr [rxD r]]) := hk3.app
          have hb4 : hget (H2 ++ [Ob.arr [rxD r]]) m = .arr [.ptr p 0 0] := by rw [hget_app_lt (by omega), hb3]
          have ho4 : hget (H2 ++ [Ob.arr [rxD r]]) (m + 1) = .arr [.agg [.int .u8 0, .int .u16 0, .sl true []]] := by rw [hget_app_lt (by omega), ho3]
          generalize hdd : rxD r = d at *
          clear hk hr hb ho hr' hk2 hr2 hb3 ho3 hk3
          simp (maxSteps := 1000000) (dsimp := false) (disch := omega) only [go_sem, simprocAttr, *]
          repeat' (first | refine wpB_seq ?_ | refine wpB_regionL rfl ?_ | refine wpB_block ?_ | refine wpB_skip ?_ | refine wpB_exit ?_ | refine wpB_ret ?_ | simp (maxSteps := 1000000) (dsimp := false) (disch := omega) only [go_sem, simprocAttr, *])
          generalize H2 ++ [Ob.arr [d]] = H4 at *
          refine wpB_loop (fun e Hx => ∃ (l : List Rx) (s1 : List UInt8) (dp : Int), e 1 = .ptr m 0 0 ∧ e 2 = .ptr (m + 1) 0 0 ∧ e.df = some [.call 60 [.ptr m 0 0]] ∧ VecAt (m + 2) (e 3) Hx (rxDs l) ∧ (∀ r ∈ l, okR r) ∧ Keep p H Hx ∧ RdAt Hx p s1 dp ∧ hget Hx m = .arr [.ptr p 0 0] ∧ hget Hx (m + 1) = .arr [.agg [.int .u8 0, .int .u16 0, .sl true []]] ∧ l.length + s1.length ≤ s.length + 1 ∧ 1 ≤ l.length) (fun e Hx => rdLen p Hx) ?_ ?_
          · exact ⟨[r], s2, dp2, by simp (maxSteps := 1000000) (dsimp := false) (disch := omega) only [go_sem, simprocAttr, *], by simp (maxSteps := 1000000) (dsimp := false) (disch := omega) only [go_sem, simprocAttr, *], by simp (maxSteps := 1000000) (dsimp := false) (disch := omega) only [go_sem, simprocAttr, *], by simp (maxSteps := 1000000) (dsimp := false) (disch := omega) only [go_sem, simprocAttr, *], by simpa using hok, hk4, hr4, hb4, ho4, by simp; omega, by simp⟩
          · clear hv hk4 hr4 hb4 ho4 hok hlt hl1 c1 c2 c3 hb2
            rintro e Hx ⟨l, s1, dp, e1, e2, edf, hv, hok, hk, hr, hb, ho, hlen, hl0⟩ R hR
            have hlx := lt_of_hget ho
            by_cases q : first s1 = 124
            · repeat' (first | refine wpB_seq ?_ | refine wpB_regionL rfl ?_ | refine wpB_block ?_ | refine wpB_skip ?_ | refine wpB_exit ?_ | refine wpB_ret ?_ | simp (maxSteps := 1000000) (dsimp := false) (disch := omega) only [go_sem, simprocAttr, *])
              refine evB_state bo62 rfl rfl (take_yes hr (by decide) q) ?_ (fun _ _ h => h.elim)
              rintro _ Hy ⟨rfl, hky, hry⟩
              have hne : s1 ≠ [] := by rintro rfl; simp [first] at q
              have hlt1 := drop_lt hne
              have hby : hget Hy m = .arr [.ptr p 0 0] := by rw [hky.same m (by omega) hm, hb]
              simp (maxSteps := 1000000) (dsimp := false) (disch := omega) only [go_sem, simprocAttr, *]
              refine wpB_cond (by simp (maxSteps := 1000000) (dsimp := false) (disch := omega) only [go_sem, simprocAttr, *]; exact rfl) (fun hb2 => ?_) (fun hb2 => ?_) <;> try simp (maxSteps := 1000000) (dsimp := false) (disch := omega) only [go_sem, simprocAttr, decide_eq_true_eq, decide_eq_false_iff_not, Bool.not_eq_true, Bool.not_eq_false, Int.not_lt, Int.not_le] at hb2
              repeat' (first | refine wpB_seq ?_ | refine wpB_regionL rfl ?_ | refine wpB_block ?_ | refine wpB_skip ?_ | refine wpB_exit ?_ | refine wpB_ret ?_ | simp (maxSteps := 1000000) (dsimp := false) (disch := omega) only [go_sem, simprocAttr, *])
              refine evB_state bo61 rfl rfl (alt_read hE (by omega) hn2 hry) ?_ (fun _ _ hp => ?_)
              · rintro d2 Hz ⟨r2, s3, dp3, rfl, hok2, hkz, hrz, hltz⟩
                obtain ⟨c1, v', H', ha, hv', hsame⟩ := app_item (m := m + 2) (by omega) (hky.trans hkz) hv (by omega) (.inl (rxV_self r2))
                have c2 := rx_aggQ r2
                have c3 := rx_noTup r2
                have hk' := (hk.trans hky).trans hkz
                have hkH : Keep p H H' := ⟨by have := hk'.len; have := hsame.1; omega, fun k hk3 hkp => by rw [hsame.2 k (by omega), hk'.same k hk3 hkp]⟩
                have hrH : RdAt H' p s3 dp3 := by unfold RdAt at hrz ⊢; rw [hsame.2 p (by omega), hrz]
                have hbH : hget H' m = .arr [.ptr p 0 0] := by rw [hsame.2 m (by omega), hkz.same m (lt_of_hget hby) hm, hby]
                have hoH : hget H' (m + 1) = .arr [.agg [.int .u8 0, .int .u16 0, .sl true []]] := by rw [hsame.2 (m + 1) (by omega), (hky.trans hkz).same (m + 1) hlx hm1, ho]
                generalize hd2 : rxD r2 = d2 at *
                simp (maxSteps := 1000000) (dsimp := false) (disch := omega) only [go_sem, simprocAttr, *]
                repeat' (first | refine wpB_seq ?_ | refine wpB_regionL rfl ?_ | refine wpB_block ?_ | refine wpB_skip ?_ | refine wpB_exit ?_ | refine wpB_ret ?_ | simp (maxSteps := 1000000) (dsimp := false) (disch := omega) only [go_sem, simprocAttr, *])
                refine hR _ _ ⟨l ++ [r2], s3, dp3, by simp (maxSteps := 1000000) (dsimp := false) (disch := omega) only [go_sem, simprocAttr, *], by simp (maxSteps := 1000000) (dsimp := false) (disch := omega) only [go_sem, simprocAttr, *], by simp (maxSteps := 1000000) (dsimp := false) (disch := omega) only [go_sem, simprocAttr, *], by simp (maxSteps := 1000000) (dsimp := false) (disch := omega) only [go_sem, simprocAttr, *], ?_, hkH, hrH, hbH, hoH, by simp only [List.length_append, List.length_cons, List.length_nil]; omega, by simp⟩ ?_
                · intro x hx
                  rcases List.mem_append.1 hx with hx | hx
                  · exact hok x hx
                  · simp only [List.mem_singleton] at hx; subst hx; exact hok2
                · rw [rdLen_of hr, rdLen_of hrH]; omega
              · obtain ⟨p1, p2, s4, dp4, p3⟩ := hp
                simp (maxSteps := 1000000) (dsimp := false) (disch := omega) only [go_sem, simprocAttr, *]
                exact leaveQ_pan (by simp (maxSteps := 1000000) (dsimp := false) (disch := omega) only [go_sem, simprocAttr, *]) (hdef ((hk.trans hky).trans p2) p3 (by rw [p2.same m (lt_of_hget hby) hm, hby]) rfl)
            · repeat' (first | refine wpB_seq ?_ | refine wpB_regionL rfl ?_ | refine wpB_block ?_ | refine wpB_skip ?_ | refine wpB_exit ?_ | refine wpB_ret ?_ | simp (maxSteps := 1000000) (dsimp := false) (disch := omega) only [go_sem, simprocAttr, *])
              refine evB_state bo62 rfl rfl (take_no hr q) ?_ (fun _ _ h => h.elim)
              rintro _ Hy ⟨rfl, rfl⟩
              simp (maxSteps := 1000000) (dsimp := false) (disch := omega) only [go_sem, simprocAttr, *]
              refine wpB_cond (by simp (maxSteps := 1000000) (dsimp := false) (disch := omega) only [go_sem, simprocAttr, *]; exact rfl) (fun hb2 => ?_) (fun hb2 => ?_) <;> try simp (maxSteps := 1000000) (dsimp := false) (disch := omega) only [go_sem, simprocAttr, decide_eq_true_eq, decide_eq_false_iff_not, Bool.not_eq_true, Bool.not_eq_false, Int.not_lt, Int.not_le] at hb2
              repeat' (first | refine wpB_seq ?_ | refine wpB_regionL rfl ?_ | refine wpB_block ?_ | refine wpB_skip ?_ | refine wpB_exit ?_ | refine wpB_ret ?_ | simp (maxSteps := 1000000) (dsimp := false) (disch := omega) only [go_sem, simprocAttr, *])
              obtain ⟨H3, hpu, hsame⟩ := pures_vecS (a := .int .u8 3) hv (strip_rxs l) rfl
              have hokt : okR (tog 3 l) := okR_tog (by decide) hok (by omega)
              have hto := together_ok 3 l
              have c4 := rx_cells (tog 3 l)
              have c5 := rx_aggQ (tog 3 l)
              have c6 := rx_noTup (tog 3 l)
              have c7 := rxV_self (tog 3 l)
              generalize hdd : rxD (tog 3 l) = d at *
              refine evB_pure bo63 rfl rfl hpu hto ?_
              obtain ⟨Hz, hz, hzs⟩ : ∃ Hz, (if flat d = true then Hy else H3) = Hz ∧ Same (m + 2) Hy Hz := by split <;> exact ⟨_, rfl, by first | exact hsame | exact Same.refl⟩
              rw [hz]
              clear hz hpu hsame
              have z1 : hget Hz (m + 1) = .arr [.agg [.int .u8 0, .int .u16 0, .sl true []]] := by rw [hzs.2 (m + 1) (by omega), ho]
              have z2 := lt_of_hget z1
              have z3 : hget (Hz.set (m + 1) (.arr [d])) m = .arr [.ptr p 0 0] := by rw [hget_set_ne (by omega), hzs.2 m (by omega), hb]
              have z4 : RdAt (Hz.set (m + 1) (.arr [d])) p s1 dp := by unfold RdAt at hr ⊢; rw [hget_set_ne hm1, hzs.2 p (by omega), hr]
              have z5 : Keep p H (Hz.set (m + 1) (.arr [d])) := ⟨by have := hk.len; have := hzs.1; simp; omega, fun k hk3 hkp => by rw [hget_set_ne (by omega), hzs.2 k (by omega), hk.same k hk3 hkp]⟩
              have z6 : hget (Hz.set (m + 1) (.arr [d])) (m + 1) = .arr [d] := hget_set_eq z2
              have fin : ∀ {e : Env}, e 2 = .ptr (m + 1) 0 0 → LvQ Tryd.prog A [.cell 2 40] (RxQ p H (s.length + 1)) (PanQ p H) e [.call 60 [.ptr m 0 0]] .ret (Hz.set (m + 1) (.arr [d])) := by
                intro e he
                refine defer_ok z3 z4 (lvQ_ret (ds := [d]) ?_ ⟨_, s1, _, c7, hokt, z5.trans Keep.set, hget_set_eq z4.lt, by omega⟩)
                have z7 : hget ((Hz.set (m + 1) (.arr [d])).set p (.arr [.agg [.str s1, .int .i64 (IntKind.i64.wrap (dp - 1))]])) (m + 1) = .arr [d] := by rw [hget_set_ne (by omega), z6]
                generalize (Hz.set (m + 1) (.arr [d])).set p (.arr [.agg [.str s1, .int .i64 (IntKind.i64.wrap (dp - 1))]]) = Hq at *
                simp (maxSteps := 1000000) (dsimp := false) (disch := omega) only [go_sem, simprocAttr, *]
                try rfl
              simp (maxSteps := 1000000) (dsimp := false) (disch := omega) only [go_sem, simprocAttr, *]
              repeat' (first | refine wpB_seq ?_ | refine wpB_regionL rfl ?_ | refine wpB_block ?_ | refine wpB_skip ?_ | refine wpB_exit ?_ | refine wpB_ret ?_ | simp (maxSteps := 1000000) (dsimp := false) (disch := omega) only [go_sem, simprocAttr, *])
              exact leaveQ_ret (by simp (maxSteps := 1000000) (dsimp := false) (disch := omega) only [go_sem, simprocAttr, *]) (fin (by simp (maxSteps := 1000000) (dsimp := false) (disch := omega) only [go_sem, simprocAttr, *]))
        · obtain ⟨p1, p2, s4, dp4, p3⟩ := hp
          simp (maxSteps := 1000000) (dsimp := false) (disch := omega) only [go_sem, simprocAttr, *]
          exact leaveQ_pan (by simp (maxSteps := 1000000) (dsimp := false) (disch := omega) only [go_sem, simprocAttr, *]) (hdef (hk.trans p2) p3 (by rw [p2.same m (lt_of_hget hb) hm, hb]) rfl)
theorem expr_all : ∀ n, n ≤ 100000 → ExprOk n
  | 0, _ => fun H p s dp hn => absurd hn (by omega)
  | n + 1, h => expr_step (expr_all n (by omega)) (by omega)
end Go.Proofs.W
end
/- The reader: whole texts of expressions; what it gives up with is caught. -/
section
set_option maxHeartbeats 4000000
set_option linter.unusedVariables false
set_option linter.unusedSimpArgs false
namespace Go.Proofs.W
open Go Vm Go.Proofs.Zs05

theorem evF_ex {α : Type} {f : FuncId} {args : List D} {H : Heap} {Q : α → D → Heap → Prop} (h : EvF Tryd.prog A f args H (fun d H => ∃ x, Q x d H) (fun _ _ => False)) : ∃ x, EvF Tryd.prog A f args H (Q x) (fun _ _ => False) := by
  obtain ⟨k, r, h1, h2⟩ := h
  cases r with
  | pan d H => exact h2.elim
  | ok d H => obtain ⟨x, hx⟩ := h2; exact ⟨x, k, _, h1, hx⟩
/-- what is read leaves -/
def ReadQ (x : Rx × Bool) (d : D) (H : Heap) : Prop := outPure H d = some (.tup [rxD x.1, .bool x.2]) ∧ okR x.1
theorem recD_ret : recD .ret = (.nili, .ret) := rfl
theorem recD_pan {d : D} : recD (.pan d) = (d, .rcv d) := rfl
theorem settle_ret : Md.settle .ret = .ret := rfl
theorem settle_rcv {d : D} : Md.settle (.rcv d) = .ret := rfl
theorem sz_wrong : sizeT Tryd.prog 73 = none := by kernel_rfl
theorem szz_wrong : sizeZ Tryd.prog 73 = some 0 := by kernel_rfl
theorem ne_nil : binD Tryd.prog .neq 20 .nili .nili = some (.bool false) := by kernel_rfl
theorem ne_wrong : binD Tryd.prog .neq 20 (.iface 73 (.agg [])) .nili = some (.bool true) := by kernel_rfl
attribute [local go_sem] sz_wrong szz_wrong recD_ret recD_pan settle_ret settle_rcv ne_nil ne_wrong
theorem out_strip2 {H : Heap} {d d' : D} (h : strip d = some d') : outPure H d = some d' := by
  unfold outPure deepest Vm.pur
  rw [h]; rfl
theorem caught_ret {H : Heap} {x y : D} {rs : List ResultVar} {K Kp : D → Heap → Prop} {e : Env} (k : LvQ Tryd.prog A rs K Kp e [] .ret H) : LvQ Tryd.prog A rs K Kp e [.call 51 [x, y]] .ret H := by
  refine lvQ_call (n := 17) Tryd.func51 rfl rfl rfl rfl rfl (Vm.wpS_seq (Vm.wpS_rec (t := 5) (u := 2) rfl rfl rfl rfl rfl rfl rfl rfl ⟨rfl, Vm.wpS_calm rfl ?_⟩))
  repeat' (first | refine wpB_seq ?_ | refine wpB_regionL rfl ?_ | refine wpB_block ?_ | refine wpB_skip ?_ | refine wpB_exit ?_ | refine wpB_ret ?_ | simp (maxSteps := 1000000) (dsimp := false) (disch := omega) only [go_sem, simprocAttr, *])
  refine wpB_cond (by simp (maxSteps := 1000000) (dsimp := false) (disch := omega) only [go_sem, simprocAttr, *]; exact rfl) (fun hb => ?_) (fun hb => ?_) <;> try simp (maxSteps := 1000000) (dsimp := false) (disch := omega) only [go_sem, simprocAttr, decide_eq_true_eq, decide_eq_false_iff_not, Bool.not_eq_true, Bool.not_eq_false, Int.not_lt, Int.not_le] at hb
  repeat' (first | refine wpB_seq ?_ | refine wpB_regionL rfl ?_ | refine wpB_block ?_ | refine wpB_skip ?_ | refine wpB_exit ?_ | refine wpB_ret ?_ | simp (maxSteps := 1000000) (dsimp := false) (disch := omega) only [go_sem, simprocAttr, *])
theorem caught_pan {H : Heap} {rs : List ResultVar} {K Kp : D → Heap → Prop} {e : Env} (ha : hget H 0 = .arr [.agg [.int .u8 0, .int .u16 0, .sl true []]]) (hb : hget H 1 = .arr [.bool false])
    (k : ∀ H', hget H' 0 = .arr [.agg [.int .u8 0, .int .u16 0, .sl true []]] → hget H' 1 = .arr [.bool false] → LvQ Tryd.prog A rs K Kp e [] .ret H') : LvQ Tryd.prog A rs K Kp e [.call 51 [.ptr 0 0 0, .ptr 1 0 0]] (.pan wrongD) H := by
  have l0 := lt_of_hget ha
  have l1 := lt_of_hget hb
  have ha2 : hget (H ++ [Ob.arr [.agg []]]) 0 = .arr [.agg [.int .u8 0, .int .u16 0, .sl true []]] := by rw [hget_app_lt l0, ha]
  have hb2 : hget (H ++ [Ob.arr [.agg []]]) 1 = .arr [.bool false] := by rw [hget_app_lt l1, hb]
  have hk := k (((H ++ [Ob.arr [.agg []]]).set 0 (.arr [.agg [.int .u8 0, .int .u16 0, .sl true []]])).set 1 (.arr [.bool false])) (by rw [hget_set_ne (by omega)]; exact hget_set_eq (by simp only [List.length_append, List.length_set, List.length_cons, List.length_nil]; omega)) (hget_set_eq (by simp only [List.length_append, List.length_set, List.length_cons, List.length_nil]; omega))
  clear k
  refine lvQ_call (n := 17) Tryd.func51 rfl rfl rfl rfl rfl (Vm.wpS_seq (Vm.wpS_rec (t := 5) (u := 2) rfl rfl rfl rfl rfl rfl rfl rfl ⟨rfl, Vm.wpS_calm rfl ?_⟩))
  repeat' (first | refine wpB_seq ?_ | refine wpB_regionL rfl ?_ | refine wpB_block ?_ | refine wpB_skip ?_ | refine wpB_exit ?_ | refine wpB_ret ?_ | simp (maxSteps := 1000000) (dsimp := false) (disch := omega) only [go_sem, simprocAttr, *, wrongD, un_wrong])
  refine wpB_cond (by simp (maxSteps := 1000000) (dsimp := false) (disch := omega) only [go_sem, simprocAttr, *]; exact rfl) (fun hb1 => ?_) (fun hb1 => ?_) <;> try simp (maxSteps := 1000000) (dsimp := false) (disch := omega) only [go_sem, simprocAttr, decide_eq_true_eq, decide_eq_false_iff_not, Bool.not_eq_true, Bool.not_eq_false, Int.not_lt, Int.not_le] at hb1
  repeat' (first | refine wpB_seq ?_ | refine wpB_regionL rfl ?_ | refine wpB_block ?_ | refine wpB_skip ?_ | refine wpB_exit ?_ | refine wpB_ret ?_ | simp (maxSteps := 1000000) (dsimp := false) (disch := omega) only [go_sem, simprocAttr, *, wrongD, un_wrong])
  refine wpB_cond (by simp (maxSteps := 1000000) (dsimp := false) (disch := omega) only [go_sem, simprocAttr, *]; exact rfl) (fun hb3 => ?_) (fun hb3 => ?_) <;> try simp (maxSteps := 1000000) (dsimp := false) (disch := omega) only [go_sem, simprocAttr, decide_eq_true_eq, decide_eq_false_iff_not, Bool.not_eq_true, Bool.not_eq_false, Int.not_lt, Int.not_le] at hb3
  repeat' (first | refine wpB_seq ?_ | refine wpB_regionL rfl ?_ | refine wpB_block ?_ | refine wpB_skip ?_ | refine wpB_exit ?_ | refine wpB_ret ?_ | simp (maxSteps := 1000000) (dsimp := false) (disch := omega) only [go_sem, simprocAttr, *])
theorem read_ok (s : List UInt8) (hs : s.length ≤ 50000) : ∃ x : Rx × Bool, okR x.1 ∧ PureF Tryd.prog A 39 [.str s] (.tup [rxD x.1, .bool x.2]) := by
  have h := evF_ex (f := 39) (args := [.str s]) (H := []) (Q := ReadQ) (by
    refine evF_leaveB (n := 17) (rs := [.cell 2 40, .cell 3 4]) Tryd.func39 rfl rfl rfl rfl rfl ?_
    have hbo := bo51
    repeat' (first | refine wpB_seq ?_ | refine wpB_regionL rfl ?_ | refine wpB_block ?_ | refine wpB_skip ?_ | refine wpB_exit ?_ | refine wpB_ret ?_ | simp (maxSteps := 1000000) (dsimp := false) (disch := omega) only [go_sem, simprocAttr, *])
    refine evB_state bo52 rfl rfl (expr_all (s.length + 1) (by omega) _ 2 s 0 (by omega) rfl) ?_ (fun _ _ hp => ?_)
    · rintro d H2 ⟨r, s2, dp2, hd, hok, hk, hr, hlt⟩
      have h0 : hget H2 0 = .arr [.agg [.int .u8 0, .int .u16 0, .sl true []]] := hk.same 0 (by simp) (by omega)
      have h1 : hget H2 1 = .arr [.bool false] := hk.same 1 (by simp) (by omega)
      have l0 := lt_of_hget h0
      have l1 := lt_of_hget h1
      have c1 := hd.cells
      have c2 := hd.aggQ
      have c3 := hd.noTup
      have hr' := hr
      unfold RdAt at hr'
      have hl2 := hr.lt
      simp (maxSteps := 1000000) (dsimp := false) (disch := omega) only [go_sem, simprocAttr, *]
      repeat' (first | refine wpB_seq ?_ | refine wpB_regionL rfl ?_ | refine wpB_block ?_ | refine wpB_skip ?_ | refine wpB_exit ?_ | refine wpB_ret ?_ | simp (maxSteps := 1000000) (dsimp := false) (disch := omega) only [go_sem, simprocAttr, *])
      refine wpB_regionXL (prs := [([2], [14])]) (by kernel_rfl) rfl (by kernel_rfl) ?_; simp (maxSteps := 1000000) (dsimp := false) (disch := omega) only [go_sem, simprocAttr, *]
      refine wpB_ret ?_
      refine leaveQ_ret rfl (caught_ret (lvQ_ret (ds := [d, .bool (s2 == [])]) ?_ ⟨(r, s2 == []), out_strip2 ?_, hok⟩))
      · have g0 : hget (((H2.set 0 (Ob.arr [d])).set 0 (Ob.arr [d])).set 1 (Ob.arr [.bool (s2 == [])])) 0 = .arr [d] := by rw [hget_set_ne (by omega)]; exact hget_set_eq (by simpa using l0)
        have g1 : hget (((H2.set 0 (Ob.arr [d])).set 0 (Ob.arr [d])).set 1 (Ob.arr [.bool (s2 == [])])) 1 = .arr [.bool (s2 == [])] := hget_set_eq (by simpa using l1)
        generalize ((H2.set 0 (Ob.arr [d])).set 0 (Ob.arr [d])).set 1 (Ob.arr [.bool (s2 == [])]) = Hq at *
        simp (maxSteps := 1000000) (dsimp := false) (disch := omega) only [go_sem, simprocAttr, *]
        try rfl
      · simp only [oneD, strip, stripL, hd.strip, Option.bind_some, Option.map_some]
    · obtain ⟨p1, p2, s4, dp4, p3⟩ := hp
      simp (maxSteps := 1000000) (dsimp := false) (disch := omega) only [go_sem, simprocAttr, *]
      have h0 : hget _ 0 = .arr [.agg [.int .u8 0, .int .u16 0, .sl true []]] := p2.same 0 (by simp) (by omega)
      have h1 : hget _ 1 = .arr [.bool false] := p2.same 1 (by simp) (by omega)
      refine leaveQ_pan rfl (caught_pan h0 h1 fun H' g0 g1 => lvQ_ret (ds := [.agg [.int .u8 0, .int .u16 0, .sl true []], .bool false]) ?_ ⟨(.mk 0 0 [], false), out_strip2 rfl, by decide, by decide, by decide, by decide, by decide, trivial⟩)
      simp (maxSteps := 1000000) (dsimp := false) (disch := omega) only [go_sem, simprocAttr, *]
      try rfl)
  obtain ⟨x, hx⟩ := h
  have hok : okR x.1 := by
    obtain ⟨k, r, h1, h2⟩ := hx
    cases r with
    | pan d H => exact h2.elim
    | ok d H => exact h2.2
  exact ⟨x, hok, hx.mono (fun d H h => h.1) (fun _ _ h => h)⟩
end Go.Proofs.W
end
/- Lines and texts of rules: what is read is right. -/
section
set_option maxHeartbeats 4000000
set_option linter.unusedVariables false
set_option linter.unusedSimpArgs false
namespace Go.Proofs.W
open Go Vm Go.Proofs.Zs05

theorem bd_rule (ps : List (Nat × D)) : buildD Tryd.prog 42 ps = (fillD (fun i => ([(0, 1), (1, 3), (4, 1)] : List (Nat × Nat))[i]?) (D.cells (.agg [.str [], .int .u8 0, .int .u16 0, .sl true [], .bool false])) ps).map .agg := by kernel_rfl
attribute [local go_sem] zr_rule bd_rule
theorem cut_le (s p : List UInt8) : (Lib.cut s p).1.length ≤ s.length ∧ (Lib.cut s p).2.1.length ≤ s.length := by
  unfold Lib.cut
  split
  · exact ⟨by simp only [List.length_take]; omega, by simp only [List.length_drop]; omega⟩
  · exact ⟨Nat.le_refl _, Nat.zero_le _⟩
theorem trim_le (s p : List UInt8) : (Lib.trimSuffix s p).length ≤ s.length := by
  unfold Lib.trimSuffix
  split
  · simp only [List.length_take]; omega
  · exact Nat.le_refl _
theorem splitK_le (p : List UInt8) : ∀ (k : Nat) (s : List UInt8), (Lib.splitK p 0 k s).length ≤ k + 1 ∧ 1 ≤ (Lib.splitK p 0 k s).length ∧ ∀ x ∈ Lib.splitK p 0 k s, x.length ≤ s.length
  | 0, s => by simp [Lib.splitK]
  | k + 1, s => by
    unfold Lib.splitK
    split
    · simp
    · have := splitK_le p k (s.drop ((Lib.index s p).toNat + p.length))
      refine ⟨by simp only [List.length_cons]; omega, by simp, fun x hx => ?_⟩
      rcases List.mem_cons.1 hx with rfl | hx
      · simp only [List.length_take]; omega
      · have := this.2.2 x hx
        simp only [List.length_drop] at this; omega
theorem split_le (s p : List UInt8) : (Lib.split s p).length ≤ Lib.count s p + 1 ∧ 1 ≤ (Lib.split s p).length ∧ ∀ x ∈ Lib.split s p, x.length ≤ s.length := splitK_le p _ s
theorem line_ok (s : List UInt8) (hs : s.length ≤ 50000) : ∃ (r : Rule) (b : Bool), okR r.rx ∧ r.nm.length ≤ s.length ∧ PureF Tryd.prog A 24 [.str s] (.tup [ruleD r, .bool b]) := by
  obtain ⟨ha, htl⟩ := cut_le s [58, 32]
  have hcut : ∀ H, pCut [.str s, .str [58, 32]] H = some (.ok (.tup [.str (Lib.cut s [58, 32]).1, .str (Lib.cut s [58, 32]).2.1, .bool (Lib.cut s [58, 32]).2.2]) H) := fun H => if_pos (by simp [shortS]; omega)
  generalize Lib.cut s [58, 32] = q at *
  obtain ⟨a, t, b⟩ := q
  simp only at ha htl hcut
  have hn := trim_le a [33]
  have hsuf : ∀ H, pCutSuffix [.str a, .str [33]] H = some (.ok (.tup [.str (Lib.trimSuffix a [33]), .bool (Lib.hasSuffix a [33])]) H) := fun H => if_pos (by simp [shortS]; omega)
  generalize Lib.trimSuffix a [33] = n at *
  generalize Lib.hasSuffix a [33] = c at *
  obtain ⟨⟨r, b2⟩, hok, hread⟩ := read_ok t (by omega)
  simp only at hok hread
  refine ⟨⟨n, r, c⟩, b && b2, hok, by simp only; omega, ?_⟩
  have c1 := rx_cells r
  have c2 := rx_aggQ r
  have c3 := rx_noTup r
  have c4 := strip_rxs r.kids
  have hr := rule_rx ⟨n, r, c⟩
  simp only at hr
  refine evF_inB (n := 35) (rs := [.cell 2 42, .tmp 3]) Tryd.func24 rfl rfl rfl rfl rfl rfl ?_
  repeat' (first | refine wpB_seq ?_ | refine wpB_regionL rfl ?_ | refine wpB_block ?_ | refine wpB_skip ?_ | refine wpB_exit ?_ | refine wpB_ret ?_ | simp (maxSteps := 1000000) (dsimp := false) (disch := omega) only [go_sem, simprocAttr, *])
  refine evB_prim bo37 rfl (hcut _) ?_
  simp (maxSteps := 1000000) (dsimp := false) (disch := omega) only [go_sem, simprocAttr, *]
  repeat' (first | refine wpB_seq ?_ | refine wpB_regionL rfl ?_ | refine wpB_block ?_ | refine wpB_skip ?_ | refine wpB_exit ?_ | refine wpB_ret ?_ | simp (maxSteps := 1000000) (dsimp := false) (disch := omega) only [go_sem, simprocAttr, *])
  refine evB_prim bo38 rfl (hsuf _) ?_
  simp (maxSteps := 1000000) (dsimp := false) (disch := omega) only [go_sem, simprocAttr, *]
  repeat' (first | refine wpB_seq ?_ | refine wpB_regionL rfl ?_ | refine wpB_block ?_ | refine wpB_skip ?_ | refine wpB_exit ?_ | refine wpB_ret ?_ | simp (maxSteps := 1000000) (dsimp := false) (disch := omega) only [go_sem, simprocAttr, *])
  refine evB_plain bo39 rfl rfl (strip1 rfl) hread ?_
  rw [hr]
  simp (maxSteps := 1000000) (dsimp := false) (disch := omega) only [go_sem, simprocAttr, *]
  cases b with
  | true =>
    repeat' (first | refine wpB_seq ?_ | refine wpB_regionL rfl ?_ | refine wpB_block ?_ | refine wpB_skip ?_ | refine wpB_exit ?_ | refine wpB_ret ?_ | simp (maxSteps := 1000000) (dsimp := false) (disch := omega) only [go_sem, simprocAttr, *])
    exact out_strip2 (by simp [ruleD, strip, stripL, c4, oneD])
  | false =>
    repeat' (first | refine wpB_seq ?_ | refine wpB_regionL rfl ?_ | refine wpB_block ?_ | refine wpB_skip ?_ | refine wpB_exit ?_ | refine wpB_ret ?_ | simp (maxSteps := 1000000) (dsimp := false) (disch := omega) only [go_sem, simprocAttr, *])
    exact out_strip2 (by simp [ruleD, strip, stripL, c4, oneD])
end Go.Proofs.W
end
/- Texts of rules: what is read is right. -/
section
set_option maxHeartbeats 4000000
set_option linter.unusedVariables false
set_option linter.unusedSimpArgs false
namespace Go.Proofs.W
open Go Vm Go.Proofs.Zs05

attribute [local go_sem] zr_rule
theorem pures_vecF {m : Nat} {a v : D} {H : Heap} {xs : List D} (h : VecAt m v H xs) (hs : stripL xs = some xs) (ha : strip a = some a) : ∃ H', pures H [v, a] = some ([.sl false xs, a], H') := by
  obtain ⟨H', hp⟩ := h.pur (k := 4) hs
  refine ⟨H', ?_⟩
  simp only [pures, deepest, purL, pur_strip ha, Option.bind_some, hp, Option.map_some]
theorem out_three {m : Nat} {d a b : D} {H : Heap} {xs : List D} (h : VecAt m d H xs) (hs : stripL xs = some xs) (ha : strip a = some a) (hb : strip b = some b) : outPure H (.tup [d, a, b]) = some (.tup [.sl false xs, a, b]) := by
  obtain ⟨h0, ⟨rfl, rfl⟩ | ⟨h1, r, h2, h3, rfl, h4⟩⟩ := h
  · exact out_strip2 (by simp [strip, stripL, ha, hb])
  · have hv : VecAt m (.vec r 0 xs.length) H xs := ⟨h0, .inr ⟨h1, r, h2, h3, rfl, h4⟩⟩
    obtain ⟨H', hp⟩ := hv.pur (k := 3) hs
    have ha' := pur_strip (k := 4) (H := H') ha
    have hb' := pur_strip (k := 4) (H := H') hb
    unfold outPure deepest
    rw [pur_tup (by simp [stripL, strip])]
    simp only [purL, hp, Option.bind_some, ha', hb', Option.map_some]
def ParseQ (x : List Rule × Int × Int) (d : D) (H : Heap) : Prop :=
  outPure H d = some (.tup [rulesD x.1, .int .i64 x.2.1, .int .i64 x.2.2]) ∧ (x.2.2 = 0 ∧ x.2.1 = 0 ∧ rightG x.1 = true ∨ x.2.2 ≠ 0 ∧ x.1 = []) ∧ ∀ r ∈ x.1, okR r.rx ∧ r.nm.length ≤ 1000000
theorem headRules (l : List Rule) : headSize 5 (l.map ruleD) = true := by cases l <;> rfl
theorem parse_ok (s : List UInt8) (hs : s.length ≤ 2000) : ∃ x : List Rule × Int × Int, (x.2.2 = 0 ∧ x.2.1 = 0 ∧ rightG x.1 = true ∨ x.2.2 ≠ 0 ∧ x.1 = []) ∧ (∀ r ∈ x.1, okR r.rx ∧ r.nm.length ≤ 1000000) ∧ PureF Tryd.prog A 17 [.str s] (.tup [rulesD x.1, .int .i64 x.2.1, .int .i64 x.2.2]) := by
  have h := evF_ex (f := 17) (args := [.str s]) (H := []) (Q := ParseQ) (by
    have hcount : ∀ H, pCount [.str s, .str [10]] H = some (.ok (.int .i64 (Lib.count s [10])) H) := fun H => if_pos ⟨by simp [shortS]; omega, by decide⟩
    have hsplit : ∀ H, pSplit [.str s, .str [10]] H = some (.ok (.vec H.length 0 (Lib.split s [10]).length) (H ++ [.arr ((Lib.split s [10]).map .str)])) := fun H => if_pos ⟨by simp [shortS]; omega, by decide⟩
    obtain ⟨q1, q2, q3⟩ := split_le s [10]
    generalize Lib.split s [10] = L at *
    generalize Lib.count s [10] = c at *
    refine evF_inB (n := 47) (rs := [.tmp 2, .tmp 3, .tmp 4]) Tryd.func17 rfl rfl rfl rfl rfl rfl ?_
    repeat' (first | refine wpB_seq ?_ | refine wpB_regionL rfl ?_ | refine wpB_block ?_ | refine wpB_skip ?_ | refine wpB_exit ?_ | refine wpB_ret ?_ | simp (maxSteps := 1000000) (dsimp := false) (disch := omega) only [go_sem, simprocAttr, *])
    refine evB_prim bo22 rfl (hcount _) ?_
    simp (maxSteps := 1000000) (dsimp := false) (disch := omega) only [go_sem, simprocAttr, *]
    refine wpB_cond (by simp (maxSteps := 1000000) (dsimp := false) (disch := omega) only [go_sem, simprocAttr, *]; exact rfl) (fun hb => ?_) (fun hb => ?_) <;> try simp (maxSteps := 1000000) (dsimp := false) (disch := omega) only [go_sem, simprocAttr, decide_eq_true_eq, decide_eq_false_iff_not, Bool.not_eq_true, Bool.not_eq_false, Int.not_lt, Int.not_le] at hb
    · repeat' (first | refine wpB_seq ?_ | refine wpB_regionL rfl ?_ | refine wpB_block ?_ | refine wpB_skip ?_ | refine wpB_exit ?_ | refine wpB_ret ?_ | simp (maxSteps := 1000000) (dsimp := false) (disch := omega) only [go_sem, simprocAttr, *])
      exact ⟨([], 0, 1), out_strip2 rfl, .inr ⟨by decide, rfl⟩, by simp⟩
    · repeat' (first | refine wpB_seq ?_ | refine wpB_regionL rfl ?_ | refine wpB_block ?_ | refine wpB_skip ?_ | refine wpB_exit ?_ | refine wpB_ret ?_ | simp (maxSteps := 1000000) (dsimp := false) (disch := omega) only [go_sem, simprocAttr, *])
      refine evB_prim bo23 rfl (hsplit _) ?_
      have hv0 : vecSize [Ob.arr (L.map D.str)] 0 1 = true := by
        refine vecSize_of rfl ?_ ?_
        · cases L <;> simp at q2 ⊢
        · cases L <;> rfl
      simp (maxSteps := 1000000) (dsimp := false) (disch := omega) only [go_sem, simprocAttr, *]
      repeat' (first | refine wpB_seq ?_ | refine wpB_regionL rfl ?_ | refine wpB_block ?_ | refine wpB_skip ?_ | refine wpB_exit ?_ | refine wpB_ret ?_ | simp (maxSteps := 1000000) (dsimp := false) (disch := omega) only [go_sem, simprocAttr, *])
      refine wpB_loop (fun e Hx => ∃ (l : List Rule), l.length ≤ L.length ∧ e 19 = .vec 0 0 L.length ∧ e 20 = .int .i64 L.length ∧ e 21 = .int .i64 l.length ∧ VecAt 1 (e 5) Hx (l.map ruleD) ∧ hget Hx 0 = .arr (L.map .str) ∧ mayAll [] l = true ∧ ∀ r ∈ l, okR r.rx ∧ r.nm.length ≤ 1000000) (fun e Hx => L.length - natOf (e 21)) ?_ ?_
      · exact ⟨[], by simp, by simp (maxSteps := 1000000) (dsimp := false) (disch := omega) only [go_sem, simprocAttr, *], by simp (maxSteps := 1000000) (dsimp := false) (disch := omega) only [go_sem, simprocAttr, *], by simp (maxSteps := 1000000) (dsimp := false) (disch := omega) only [go_sem, simprocAttr, *]; try rfl, VecAt.nil (by simp), rfl, rfl, by simp⟩
      · rintro e Hx ⟨l, hl, e19, e20, e21, hv, h0, hm, hok⟩ R hR
        have hvs : vecSize Hx 0 1 = true := by
          refine vecSize_of h0 ?_ ?_
          · cases L <;> simp at q2 ⊢
          · cases L <;> rfl
        repeat' (first | refine wpB_seq ?_ | refine wpB_regionL rfl ?_ | refine wpB_block ?_ | refine wpB_skip ?_ | refine wpB_exit ?_ | refine wpB_ret ?_ | simp (maxSteps := 1000000) (dsimp := false) (disch := omega) only [go_sem, simprocAttr, *])
        refine wpB_cond (by simp (maxSteps := 1000000) (dsimp := false) (disch := omega) only [go_sem, simprocAttr, *]; exact rfl) (fun hb2 => ?_) (fun hb2 => ?_) <;> try simp (maxSteps := 1000000) (dsimp := false) (disch := omega) only [go_sem, simprocAttr, decide_eq_true_eq, decide_eq_false_iff_not, Bool.not_eq_true, Bool.not_eq_false, Int.not_lt, Int.not_le] at hb2
        · have hx : (L.map D.str)[l.length]? = some (.str L[l.length]) := by simp [hb2]
          have hx3 := q3 _ (List.getElem_mem hb2)
          obtain ⟨r, b, hokr, hnr, hline⟩ := line_ok L[l.length] (by omega)
          repeat' (first | refine wpB_seq ?_ | refine wpB_regionL rfl ?_ | refine wpB_block ?_ | refine wpB_skip ?_ | refine wpB_exit ?_ | refine wpB_ret ?_ | simp (maxSteps := 1000000) (dsimp := false) (disch := omega) only [go_sem, simprocAttr, *])
          refine evB_plain bo24 rfl rfl (strip1 rfl) hline ?_
          have c1 := rule_cells r
          have c2 := rule_aggQ r
          have c3 := rule_noTup r
          have hmay := may_ok l (by omega) r hokr (by omega)
          obtain ⟨H', hpu⟩ := pures_vecF (hv.app (L := [Ob.arr [ruleD r]])) (strip_rules l) (strip_rule r)
          have hstr := strip_rule r
          obtain ⟨v', H2, ha, hv', hsame⟩ := VecAt.append el22 sz42 by42 zr_rule rfl (by decide) (hv.app (L := [Ob.arr [ruleD r]])) (q := ruleD r) c1 hstr (headRules l) (by simp; omega)
          rw [show (Hx ++ [Ob.arr [ruleD r]]).length = Hx.length + 1 by simp] at ha
          have hap : mayAll [] (l ++ [r]) = (mayAll [] l && mayZ l r) := by rw [mayAll_app]; rfl
          have hmap : l.map ruleD ++ [ruleD r] = (l ++ [r]).map ruleD := by simp
          rw [hmap] at hv'
          have hl0 := lt_of_hget h0
          have h02 : hget H2 0 = .arr (L.map .str) := by rw [hsame.2 0 (by omega), hget_app_lt hl0, h0]
          generalize ruleD r = d at *
          cases b with
          | false =>
            simp (maxSteps := 1000000) (dsimp := false) (disch := omega) only [go_sem, simprocAttr, *]
            repeat' (first | refine wpB_seq ?_ | refine wpB_regionL rfl ?_ | refine wpB_block ?_ | refine wpB_skip ?_ | refine wpB_exit ?_ | refine wpB_ret ?_ | simp (maxSteps := 1000000) (dsimp := false) (disch := omega) only [go_sem, simprocAttr, *])
            refine wpB_cond (by simp (maxSteps := 1000000) (dsimp := false) (disch := omega) only [go_sem, simprocAttr, *]; exact rfl) (fun hb3 => ?_) (fun hb3 => ?_) <;> try simp (maxSteps := 1000000) (dsimp := false) (disch := omega) only [go_sem, simprocAttr, decide_eq_true_eq, decide_eq_false_iff_not, Bool.not_eq_true, Bool.not_eq_false, Int.not_lt, Int.not_le] at hb3
            repeat' (first | refine wpB_seq ?_ | refine wpB_regionL rfl ?_ | refine wpB_block ?_ | refine wpB_skip ?_ | refine wpB_exit ?_ | refine wpB_ret ?_ | simp (maxSteps := 1000000) (dsimp := false) (disch := omega) only [go_sem, simprocAttr, *])
            exact ⟨([], _, 6), out_strip2 (by simp (maxSteps := 1000000) (dsimp := false) (disch := omega) only [go_sem, simprocAttr, *]; rfl), .inr ⟨by simp, rfl⟩, by simp⟩
          | true =>
            simp (maxSteps := 1000000) (dsimp := false) (disch := omega) only [go_sem, simprocAttr, *]
            repeat' (first | refine wpB_seq ?_ | refine wpB_regionL rfl ?_ | refine wpB_block ?_ | refine wpB_skip ?_ | refine wpB_exit ?_ | refine wpB_ret ?_ | simp (maxSteps := 1000000) (dsimp := false) (disch := omega) only [go_sem, simprocAttr, *])
            refine evB_pure bo19 rfl rfl hpu hmay ?_
            simp only [flat, flat1, if_true]
            cases hz : mayZ l r with
            | false =>
              simp (maxSteps := 1000000) (dsimp := false) (disch := omega) only [go_sem, simprocAttr, *]
              repeat' (first | refine wpB_seq ?_ | refine wpB_regionL rfl ?_ | refine wpB_block ?_ | refine wpB_skip ?_ | refine wpB_exit ?_ | refine wpB_ret ?_ | simp (maxSteps := 1000000) (dsimp := false) (disch := omega) only [go_sem, simprocAttr, *])
              refine wpB_cond (by simp (maxSteps := 1000000) (dsimp := false) (disch := omega) only [go_sem, simprocAttr, *]; exact rfl) (fun hb3 => ?_) (fun hb3 => ?_) <;> try simp (maxSteps := 1000000) (dsimp := false) (disch := omega) only [go_sem, simprocAttr, decide_eq_true_eq, decide_eq_false_iff_not, Bool.not_eq_true, Bool.not_eq_false, Int.not_lt, Int.not_le] at hb3
              repeat' (first | refine wpB_seq ?_ | refine wpB_regionL rfl ?_ | refine wpB_block ?_ | refine wpB_skip ?_ | refine wpB_exit ?_ | refine wpB_ret ?_ | simp (maxSteps := 1000000) (dsimp := false) (disch := omega) only [go_sem, simprocAttr, *])
              exact ⟨([], _, 6), out_strip2 (by simp (maxSteps := 1000000) (dsimp := false) (disch := omega) only [go_sem, simprocAttr, *]; rfl), .inr ⟨by simp, rfl⟩, by simp⟩
            | true =>
              rw [hz, hm] at hap
              simp (maxSteps := 1000000) (dsimp := false) (disch := omega) only [go_sem, simprocAttr, *]
              repeat' (first | refine wpB_seq ?_ | refine wpB_regionL rfl ?_ | refine wpB_block ?_ | refine wpB_skip ?_ | refine wpB_exit ?_ | refine wpB_ret ?_ | simp (maxSteps := 1000000) (dsimp := false) (disch := omega) only [go_sem, simprocAttr, *])
              refine wpB_cond (by simp (maxSteps := 1000000) (dsimp := false) (disch := omega) only [go_sem, simprocAttr, *]; exact rfl) (fun hb3 => ?_) (fun hb3 => ?_) <;> try simp (maxSteps := 1000000) (dsimp := false) (disch := omega) only [go_sem, simprocAttr, decide_eq_true_eq, decide_eq_false_iff_not, Bool.not_eq_true, Bool.not_eq_false, Int.not_lt, Int.not_le] at hb3
              repeat' (first | refine wpB_seq ?_ | refine wpB_regionL rfl ?_ | refine wpB_block ?_ | refine wpB_skip ?_ | refine wpB_exit ?_ | refine wpB_ret ?_ | simp (maxSteps := 1000000) (dsimp := false) (disch := omega) only [go_sem, simprocAttr, *])
              refine hR _ _ ⟨l ++ [r], by simp only [List.length_append, List.length_cons, List.length_nil]; omega, by simp (maxSteps := 1000000) (dsimp := false) (disch := omega) only [go_sem, simprocAttr, *], by simp (maxSteps := 1000000) (dsimp := false) (disch := omega) only [go_sem, simprocAttr, *], by simp (maxSteps := 1000000) (dsimp := false) (disch := omega) only [go_sem, simprocAttr, *]; try simp, by simp (maxSteps := 1000000) (dsimp := false) (disch := omega) only [go_sem, simprocAttr, *], h02, hap, ?_⟩ ?_
              · intro x hx
                rcases List.mem_append.1 hx with hx | hx
                · exact hok x hx
                · simp only [List.mem_singleton] at hx; subst hx; exact ⟨hokr, by omega⟩
              · simp (maxSteps := 1000000) (dsimp := false) (disch := omega) only [go_sem, simprocAttr, *, natOf_int]
        · repeat' (first | refine wpB_seq ?_ | refine wpB_regionL rfl ?_ | refine wpB_block ?_ | refine wpB_skip ?_ | refine wpB_exit ?_ | refine wpB_ret ?_ | simp (maxSteps := 1000000) (dsimp := false) (disch := omega) only [go_sem, simprocAttr, *])
          refine ⟨(l, 0, 0), out_three hv (strip_rules l) rfl rfl, .inl ⟨rfl, rfl, ?_⟩, hok⟩
          simp only [rightG, hm, Bool.and_true, decide_eq_true_eq]
          omega)
  obtain ⟨x, hx⟩ := h
  have hc : (x.2.2 = 0 ∧ x.2.1 = 0 ∧ rightG x.1 = true ∨ x.2.2 ≠ 0 ∧ x.1 = []) ∧ (∀ r ∈ x.1, okR r.rx ∧ r.nm.length ≤ 1000000) := by
    obtain ⟨k, r, h1, h2⟩ := hx
    cases r with
    | pan d H => exact h2.elim
    | ok d H => exact h2.2
  exact ⟨x, hc.1, hc.2, hx.mono (fun d H h => h.1) (fun _ _ h => h)⟩
end Go.Proofs.W
end
/- The law that what is read is right, and that categories come back from their word. -/
section
set_option maxHeartbeats 4000000
set_option linter.unusedVariables false
set_option linter.unusedSimpArgs false
namespace Go.Proofs.W
open Go Vm Go.Proofs.Zs05

theorem right_nil : rightG [] = false := rfl
theorem cat_letter : (List.range 16).all (fun c => (letterZ (c : Int)).all (fun b => catZ b.toNat == (c : Int)) && (letterZ (c : Int)).length == 1) = true := by decide +kernel
theorem cats_word : ∀ (l : List Int), (∀ c ∈ l, 0 ≤ c ∧ c < 16) → (∀ b ∈ l.flatMap letterZ, 0 ≤ catZ b.toNat) ∧ ((l.flatMap letterZ).map fun b => catZ b.toNat) = l := by
  intro l
  induction l with
  | nil => intro _; simp
  | cons c l ih =>
    intro h
    obtain ⟨ih1, ih2⟩ := ih fun x hx => h x (by simp [hx])
    obtain ⟨h0, h1⟩ := h c (by simp)
    have := List.all_eq_true.1 cat_letter c.toNat (List.mem_range.2 (by omega))
    rw [show ((c.toNat : Nat) : Int) = c by omega] at this
    simp only [Bool.and_eq_true, beq_iff_eq] at this
    obtain ⟨b, hb⟩ := List.length_eq_one_iff.1 this.2
    have hc : catZ b.toNat = c := by have := List.all_eq_true.1 this.1 b (by simp [hb]); simpa using this
    rw [List.flatMap_cons, hb]
    refine ⟨fun x hx => ?_, by simp [hc, ih2]⟩
    rcases List.mem_append.1 hx with hx | hx
    · simp only [List.mem_singleton] at hx; subst hx; omega
    · exact ih1 x hx
/-- what comes back -/
theorem meet_word (l : List Int) (h : wordZ l ≠ []) : catsD (wordZ l) = .tup [isD l, .bool true] := by
  have hw := word_all l
  cases ho : l.all okC with
  | false => rw [ho] at hw; exact absurd hw h
  | true =>
    rw [ho] at hw
    simp only [if_true] at hw
    have hall : ∀ c ∈ l, 0 ≤ c ∧ c < 16 := fun c hc => by simpa [okC] using List.all_eq_true.1 ho c hc
    obtain ⟨g1, g2⟩ := cats_word l hall
    have : catsZ (wordZ l) = some l := by
      rw [cats_all, hw, if_pos (List.all_eq_true.2 fun b hb => by simpa [okLt] using g1 b hb), g2]
    simp only [catsD, this]
theorem meet_law (s : List UInt8) (l : List Int) : Yes 5 [.str s, isD l] := by
  have hsl := strip_is l
  refine evF_inB (n := 67) (rs := [.tmp 4]) Tryd.func5 rfl rfl rfl rfl rfl rfl ?_
  repeat' (first | refine wpB_seq ?_ | refine wpB_regionL rfl ?_ | refine wpB_block ?_ | refine wpB_skip ?_ | refine wpB_exit ?_ | refine wpB_ret ?_ | simp (maxSteps := 1000000) (dsimp := false) (disch := omega) only [go_sem, simprocAttr, *])
  refine evB_plain bo7 rfl rfl rfl alive_ok ?_
  simp (maxSteps := 1000000) (dsimp := false) (disch := omega) only [go_sem, simprocAttr, *]
  refine wpB_cond (by simp (maxSteps := 1000000) (dsimp := false) (disch := omega) only [go_sem, simprocAttr, *]; exact rfl) (fun hb => ?_) (fun hb => ?_) <;> try simp (maxSteps := 1000000) (dsimp := false) (disch := omega) only [go_sem, simprocAttr, decide_eq_true_eq, decide_eq_false_iff_not, Bool.not_eq_true, Bool.not_eq_false, Int.not_lt, Int.not_le] at hb
  by_cases c1 : s.length ≤ 400
  · by_cases c2 : l.length ≤ 200
    · repeat' (first | refine wpB_seq ?_ | refine wpB_regionL rfl ?_ | refine wpB_block ?_ | refine wpB_skip ?_ | refine wpB_exit ?_ | refine wpB_ret ?_ | simp (maxSteps := 1000000) (dsimp := false) (disch := omega) only [go_sem, simprocAttr, *, isD])
      refine wpB_cond (by simp (maxSteps := 1000000) (dsimp := false) (disch := omega) only [go_sem, simprocAttr, *]; exact rfl) (fun hb2 => ?_) (fun hb2 => ?_) <;> try simp (maxSteps := 1000000) (dsimp := false) (disch := omega) only [go_sem, simprocAttr, decide_eq_true_eq, decide_eq_false_iff_not, Bool.not_eq_true, Bool.not_eq_false, Int.not_lt, Int.not_le] at hb2
      repeat' (first | refine wpB_seq ?_ | refine wpB_regionL rfl ?_ | refine wpB_block ?_ | refine wpB_skip ?_ | refine wpB_exit ?_ | refine wpB_ret ?_ | simp (maxSteps := 1000000) (dsimp := false) (disch := omega) only [go_sem, simprocAttr, *])
      obtain ⟨⟨g, n, er⟩, hc, hok, hp⟩ := parse_ok s (by omega)
      simp only at hc hok hp
      refine evB_plain bo17 rfl rfl (strip1 rfl) hp ?_
      simp (maxSteps := 1000000) (dsimp := false) (disch := omega) only [go_sem, simprocAttr, *]
      have hgl : g.length ≤ 16 := by
        rcases hc with ⟨-, -, hg⟩ | ⟨-, rfl⟩
        · simp only [rightG, Bool.and_eq_true, decide_eq_true_eq] at hg; omega
        · simp
      have hR := right_rules_ok g (by omega) hok
      have hst := strip_g g
      have hwl0 : (wordZ l).length ≤ l.length := by
        rw [word_all]; split
        · exact word_len l
        · simp
      have hcats := catsP_ok (wordZ l) (by omega)
      have hints := ints_ok l l (by omega)
      have hll : (l == l) = true := by simp
      rw [hll] at hints
      rcases hc with ⟨rfl, rfl, hg⟩ | ⟨hne, rfl⟩
      · rw [hg] at hR
        repeat' (first | refine wpB_seq ?_ | refine wpB_regionL rfl ?_ | refine wpB_block ?_ | refine wpB_skip ?_ | refine wpB_exit ?_ | refine wpB_ret ?_ | simp (maxSteps := 1000000) (dsimp := false) (disch := omega) only [go_sem, simprocAttr, *])
        refine evB_plain bo9 rfl rfl hst hR ?_
        simp (maxSteps := 1000000) (dsimp := false) (disch := omega) only [go_sem, simprocAttr, *]
        refine wpB_cond (by simp (maxSteps := 1000000) (dsimp := false) (disch := omega) only [go_sem, simprocAttr, *]; exact rfl) (fun hb3 => ?_) (fun hb3 => ?_) <;> try simp (maxSteps := 1000000) (dsimp := false) (disch := omega) only [go_sem, simprocAttr, decide_eq_true_eq, decide_eq_false_iff_not, Bool.not_eq_true, Bool.not_eq_false, Int.not_lt, Int.not_le] at hb3
        repeat' (first | refine wpB_seq ?_ | refine wpB_regionL rfl ?_ | refine wpB_block ?_ | refine wpB_skip ?_ | refine wpB_exit ?_ | refine wpB_ret ?_ | simp (maxSteps := 1000000) (dsimp := false) (disch := omega) only [go_sem, simprocAttr, *])
        refine evB_plain bo14 rfl rfl (strip1 hsl) (wordP_ok l (by omega)) ?_
        simp (maxSteps := 1000000) (dsimp := false) (disch := omega) only [go_sem, simprocAttr, *]
        repeat' (first | refine wpB_seq ?_ | refine wpB_regionL rfl ?_ | refine wpB_block ?_ | refine wpB_skip ?_ | refine wpB_exit ?_ | refine wpB_ret ?_ | simp (maxSteps := 1000000) (dsimp := false) (disch := omega) only [go_sem, simprocAttr, *])
        by_cases hw : wordZ l = []
        · rw [hw] at hcats
          rw [hw]
          refine evB_plain bo13 rfl rfl (strip1 rfl) hcats ?_
          rw [show catsD [] = .tup [isD [], .bool true] from rfl]
          simp (maxSteps := 1000000) (dsimp := false) (disch := omega) only [go_sem, simprocAttr, *]
          repeat' (first | refine wpB_seq ?_ | refine wpB_regionL rfl ?_ | refine wpB_block ?_ | refine wpB_skip ?_ | refine wpB_exit ?_ | refine wpB_ret ?_ | simp (maxSteps := 1000000) (dsimp := false) (disch := omega) only [go_sem, simprocAttr, *])
          try rfl
        · have hwl : ((wordZ l).length : Int) ≠ 0 := by cases hx : wordZ l <;> simp_all <;> omega
          rw [meet_word l hw] at hcats
          refine evB_plain bo13 rfl rfl (strip1 rfl) hcats ?_
          simp (maxSteps := 1000000) (dsimp := false) (disch := omega) only [go_sem, simprocAttr, *]
          repeat' (first | refine wpB_seq ?_ | refine wpB_regionL rfl ?_ | refine wpB_block ?_ | refine wpB_skip ?_ | refine wpB_exit ?_ | refine wpB_ret ?_ | simp (maxSteps := 1000000) (dsimp := false) (disch := omega) only [go_sem, simprocAttr, *])
          refine evB_plain bo16 rfl rfl (strip2 hsl hsl) hints ?_
          simp (maxSteps := 1000000) (dsimp := false) (disch := omega) only [go_sem, simprocAttr, *]
          repeat' (first | refine wpB_seq ?_ | refine wpB_regionL rfl ?_ | refine wpB_block ?_ | refine wpB_skip ?_ | refine wpB_exit ?_ | refine wpB_ret ?_ | simp (maxSteps := 1000000) (dsimp := false) (disch := omega) only [go_sem, simprocAttr, *])
          try rfl
      · rw [right_nil] at hR
        repeat' (first | refine wpB_seq ?_ | refine wpB_regionL rfl ?_ | refine wpB_block ?_ | refine wpB_skip ?_ | refine wpB_exit ?_ | refine wpB_ret ?_ | simp (maxSteps := 1000000) (dsimp := false) (disch := omega) only [go_sem, simprocAttr, *])
        refine evB_plain bo9 rfl rfl hst hR ?_
        simp (maxSteps := 1000000) (dsimp := false) (disch := omega) only [go_sem, simprocAttr, *, rulesD, List.map_nil]
        refine wpB_cond (by simp (maxSteps := 1000000) (dsimp := false) (disch := omega) only [go_sem, simprocAttr, *]; exact rfl) (fun hb3 => ?_) (fun hb3 => ?_) <;> try simp (maxSteps := 1000000) (dsimp := false) (disch := omega) only [go_sem, simprocAttr, decide_eq_true_eq, decide_eq_false_iff_not, Bool.not_eq_true, Bool.not_eq_false, Int.not_lt, Int.not_le] at hb3
        repeat' (first | refine wpB_seq ?_ | refine wpB_regionL rfl ?_ | refine wpB_block ?_ | refine wpB_skip ?_ | refine wpB_exit ?_ | refine wpB_ret ?_ | simp (maxSteps := 1000000) (dsimp := false) (disch := omega) only [go_sem, simprocAttr, *])
        refine evB_plain bo14 rfl rfl (strip1 hsl) (wordP_ok l (by omega)) ?_
        simp (maxSteps := 1000000) (dsimp := false) (disch := omega) only [go_sem, simprocAttr, *]
        repeat' (first | refine wpB_seq ?_ | refine wpB_regionL rfl ?_ | refine wpB_block ?_ | refine wpB_skip ?_ | refine wpB_exit ?_ | refine wpB_ret ?_ | simp (maxSteps := 1000000) (dsimp := false) (disch := omega) only [go_sem, simprocAttr, *])
        by_cases hw : wordZ l = []
        · rw [hw] at hcats
          rw [hw]
          refine evB_plain bo13 rfl rfl (strip1 rfl) hcats ?_
          rw [show catsD [] = .tup [isD [], .bool true] from rfl]
          simp (maxSteps := 1000000) (dsimp := false) (disch := omega) only [go_sem, simprocAttr, *]
          repeat' (first | refine wpB_seq ?_ | refine wpB_regionL rfl ?_ | refine wpB_block ?_ | refine wpB_skip ?_ | refine wpB_exit ?_ | refine wpB_ret ?_ | simp (maxSteps := 1000000) (dsimp := false) (disch := omega) only [go_sem, simprocAttr, *])
          try rfl
        · have hwl : ((wordZ l).length : Int) ≠ 0 := by cases hx : wordZ l <;> simp_all <;> omega
          rw [meet_word l hw] at hcats
          refine evB_plain bo13 rfl rfl (strip1 rfl) hcats ?_
          simp (maxSteps := 1000000) (dsimp := false) (disch := omega) only [go_sem, simprocAttr, *]
          repeat' (first | refine wpB_seq ?_ | refine wpB_regionL rfl ?_ | refine wpB_block ?_ | refine wpB_skip ?_ | refine wpB_exit ?_ | refine wpB_ret ?_ | simp (maxSteps := 1000000) (dsimp := false) (disch := omega) only [go_sem, simprocAttr, *])
          refine evB_plain bo16 rfl rfl (strip2 hsl hsl) hints ?_
          simp (maxSteps := 1000000) (dsimp := false) (disch := omega) only [go_sem, simprocAttr, *]
          repeat' (first | refine wpB_seq ?_ | refine wpB_regionL rfl ?_ | refine wpB_block ?_ | refine wpB_skip ?_ | refine wpB_exit ?_ | refine wpB_ret ?_ | simp (maxSteps := 1000000) (dsimp := false) (disch := omega) only [go_sem, simprocAttr, *])
          try rfl
    · repeat' (first | refine wpB_seq ?_ | refine wpB_regionL rfl ?_ | refine wpB_block ?_ | refine wpB_skip ?_ | refine wpB_exit ?_ | refine wpB_ret ?_ | simp (maxSteps := 1000000) (dsimp := false) (disch := omega) only [go_sem, simprocAttr, *, isD])
      refine wpB_cond (by simp (maxSteps := 1000000) (dsimp := false) (disch := omega) only [go_sem, simprocAttr, *]; exact rfl) (fun hb2 => ?_) (fun hb2 => ?_) <;> try simp (maxSteps := 1000000) (dsimp := false) (disch := omega) only [go_sem, simprocAttr, decide_eq_true_eq, decide_eq_false_iff_not, Bool.not_eq_true, Bool.not_eq_false, Int.not_lt, Int.not_le] at hb2
      repeat' (first | refine wpB_seq ?_ | refine wpB_regionL rfl ?_ | refine wpB_block ?_ | refine wpB_skip ?_ | refine wpB_exit ?_ | refine wpB_ret ?_ | simp (maxSteps := 1000000) (dsimp := false) (disch := omega) only [go_sem, simprocAttr, *])
      try rfl
  · repeat' (first | refine wpB_seq ?_ | refine wpB_regionL rfl ?_ | refine wpB_block ?_ | refine wpB_skip ?_ | refine wpB_exit ?_ | refine wpB_ret ?_ | simp (maxSteps := 1000000) (dsimp := false) (disch := omega) only [go_sem, simprocAttr, *, isD])
    refine wpB_cond (by simp (maxSteps := 1000000) (dsimp := false) (disch := omega) only [go_sem, simprocAttr, *]; exact rfl) (fun hb2 => ?_) (fun hb2 => ?_) <;> try simp (maxSteps := 1000000) (dsimp := false) (disch := omega) only [go_sem, simprocAttr, decide_eq_true_eq, decide_eq_false_iff_not, Bool.not_eq_true, Bool.not_eq_false, Int.not_lt, Int.not_le] at hb2
    repeat' (first | refine wpB_seq ?_ | refine wpB_regionL rfl ?_ | refine wpB_block ?_ | refine wpB_skip ?_ | refine wpB_exit ?_ | refine wpB_ret ?_ | simp (maxSteps := 1000000) (dsimp := false) (disch := omega) only [go_sem, simprocAttr, *])
    try rfl
end Go.Proofs.W
end
