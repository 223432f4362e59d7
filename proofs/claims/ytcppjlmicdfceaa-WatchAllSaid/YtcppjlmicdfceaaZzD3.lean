/- Code of the interpreter is the model's; rounds. -/
import Derived.Test.YtcppjlmicdfceaaZzD4
set_option linter.unusedVariables false
set_option linter.unusedSimpArgs false
namespace Vm
open Go Go.RowKit

section
variable {P : Program} {A : Ann} {call : CallF} {N : Nat}

theorem runC_ok (hm : P.follows .mixedOrders = true) (hA : PrimOk P A) (hcall : CallOk P call) (k : Nat) : ∀ (c : Code), CodeOk P N (runC P A call k N c) c
  | .skip => fun ρ im H w a e s n0 ro n hR he hd h => by
    simp [runC] at h; subst h
    exact wpIn_skip (.plain hR he hd (fun d h => by cases h))
  | .label l => fun ρ im H w a e s n0 ro n hR he hd h => by
    simp [runC] at h; subst h
    exact wpIn_label (.plain hR he hd (fun d h => by cases h))
  | .region id ops draw => fun ρ im H w a e s n0 ro n hR he hd h => by
    simp only [runC] at h
    cases draw with
    | true =>
      simp only [if_true] at h
      split at h
      · rename_i hl; exact draw_ok hm hA hcall hR he hd hl h
      · cases h
    | false =>
      simp only [Bool.false_eq_true, if_false] at h
      exact wpIn_region_list (runOps_ok hA hcall ops.toList hR he hd h fun x a' w' haf => haf)
  | .seq x y => fun ρ im H w a e s n0 ro n hR he hd h => by
    simp only [runC] at h
    cases hx : runC P A call k N x e H with
    | none => simp [hx] at h
    | some s1 =>
      refine wpIn_seq (wpIn_mono (runC_ok hm hA hcall k x _ _ _ _ _ _ _ n0 ro n hR he hd hx) fun x1 a1 w1 haf => ?_)
      obtain ⟨ρ1, im1, mv, he1, hd1, v1, hx1, hp1⟩ := haf.ex
      obtain ⟨ex1, e1, H1⟩ := s1
      cases ex1 with
      | norm =>
        simp only [hx] at h
        simp only [exOf] at hx1
        subst hx1
        exact wpIn_mono (runC_ok hm hA hcall k y _ _ _ _ _ _ _ n0 ro n mv.rel he1 hd1 h) fun x2 a2 w2 haf2 => haf2.mv mv
      | _ =>
        simp only [hx] at h
        simp at h; subst h
        simp only [exOf] at hx1
        subst hx1
        exact haf
  | .cond c x y => fun ρ im H w a e s n0 ro n hR he hd h => by
    simp only [runC] at h
    cases hc : evalO e c with
    | none => simp [hc] at h
    | some d =>
      have hv := evalO_rep he hc
      cases d <;> simp [hc] at h
      rename_i b
      have := hv.bool_inv
      cases b
      · exact wpIn_cond_false this (runC_ok hm hA hcall k y _ _ _ _ _ _ _ n0 ro n hR he hd h)
      · exact wpIn_cond_true this (runC_ok hm hA hcall k x _ _ _ _ _ _ _ n0 ro n hR he hd h)
  | .block id b => fun ρ im H w a e s n0 ro n hR he hd h => by
    simp only [runC] at h
    cases hx : runC P A call k N b e H with
    | none => simp [hx] at h
    | some s1 =>
      refine wpIn_block (wpIn_mono (runC_ok hm hA hcall k b _ _ _ _ _ _ _ n0 ro n hR he hd hx) fun x1 a1 w1 haf => ?_)
      obtain ⟨ρ1, im1, mv, he1, hd1, v1, hx1, hp1⟩ := haf.ex
      obtain ⟨ex1, e1, H1⟩ := s1
      cases ex1 with
      | exit i =>
        simp only [hx] at h
        simp only [exOf] at hx1
        subst hx1
        simp only [Exit.inBlock]
        split at h
        · rename_i hi
          simp at h; subst h
          rw [if_pos hi]
          exact ⟨ρ1, im1, mv, he1, hd1, .nilIface, rfl, fun d hd => by cases hd⟩
        · rename_i hi
          simp at h; subst h
          rw [if_neg hi]
          exact haf
      | _ =>
        simp only [hx] at h
        simp at h; subst h
        simp only [exOf] at hx1
        subst hx1
        exact haf
  | .loop b => fun ρ im H w a e s n0 ro n hR he hd h => iterC_ok (runC_ok hm hA hcall k b) k _ _ _ _ _ _ _ n0 ro n hR he hd (by simpa [runC] using h)
  | .rangeFunc _ _ _ _ => range_ok hcall
  | .exit id => fun ρ im H w a e s n0 ro n hR he hd h => by
    simp [runC] at h; subst h
    exact wpIn_exit (.plain hR he hd (fun d h => by cases h))
  | .scope _ => fun ρ im H w a e s n0 ro n hR he hd h => by simp [runC] at h
  | .goto _ => fun ρ im H w a e s n0 ro n hR he hd h => by simp [runC] at h
  | .ret => fun ρ im H w a e s n0 ro n hR he hd h => by
    simp [runC] at h; subst h
    exact wpIn_ret (.plain hR he hd (fun d h => by cases h))
  | .refuse _ => fun ρ im H w a e s n0 ro n hR he hd h => by simp [runC] at h

/-! ### rounds -/
theorem puts_rep {ρ : Rho} {n : Nat} {im : Im} : ∀ {ps : List Tmp} {vs : List Value} {ds : List D} {tm : Array Value} {f : Nat → D} {N : Nat}, RepA ρ n im vs ds → (ps.all fun t => decide (t < N)) = true → tm.size = N → (∀ i, Rep ρ n im (tm.getD i undef) (f i)) →
    ((ps.zip vs).foldl (fun t (p, v) => t.setIfInBounds p v) tm).size = N ∧ ∀ i, Rep ρ n im (((ps.zip vs).foldl (fun t (p, v) => t.setIfInBounds p v) tm).getD i undef) (putsD f (ps.zip ds) i)
  | [], vs, ds, tm, f, N, hr, hp, hs, hf => by simp [putsD]; exact ⟨hs, fun i => by have := hf i; simpa using this⟩
  | p :: ps, _, _, tm, f, N, .nil, hp, hs, hf => by simp [putsD]; exact ⟨hs, fun i => by have := hf i; simpa using this⟩
  | p :: ps, _, _, tm, f, N, .cons v d vs ds hv hr, hp, hs, hf => by
    simp only [List.all_cons, Bool.and_eq_true, decide_eq_true_eq] at hp
    simp only [List.zip_cons_cons, List.foldl_cons, putsD]
    refine puts_rep hr hp.2 (by simpa using hs) fun i => ?_
    by_cases hi : i = p
    · subst hi
      simpa [Array.getD_eq_getD_getElem?, hs, hp.1] using hv
    · have := hf i
      simpa [Array.getD_eq_getD_getElem?, Array.getElem?_setIfInBounds_ne (Ne.symm hi), hi] using this
theorem roundD_ok {run : Nat → Code → Env → Heap → Option St} (hrun : ∀ N c, CodeOk P N (run N c) c) {r : Nat} {args : List D} {H : Heap} {res : R} (h : roundD run r args H = some res) {ρ : Rho} {im : Im} {w : World} {vs : List Value}
    (hR : Rel ρ im H w) (hargs : RepA ρ H.length im vs args) :
    ∃ fn tmps assign body, (Instr.yield (ρ r).b ⟨vs⟩).run P w = .ok (.round (ρ r).b fn tmps assign body) w ∧ ∀ ro n, RoundIn (FW ro) n P (ρ r).b fn tmps assign body w (OutR ρ im H w res) := by
  unfold roundD at h
  obtain ⟨lp, h1, h2⟩ := bind_some h
  have hg := lpOf_some h1
  obtain ⟨hr, hlv, rec, hrec, hst, hpe, htm, hrep, hps, has, hbo⟩ := loop_at hR hg
  split at h2
  · rename_i hc
    obtain ⟨hready, hlen, hall⟩ := hc
    obtain ⟨s1, h3, h4⟩ := bind_some h2
    obtain ⟨x1, e1, H1⟩ := s1
    cases x1 <;> simp only at h4 <;> try (cases h4; done)
    obtain ⟨l1, h5, h6⟩ := bind_some h4
    have hg1 := lpOf_some h5
    split at h6
    · rename_i hready1
      obtain ⟨s2, h7, h8⟩ := bind_some h6
      obtain ⟨j, h9, h10⟩ := bind_some h8
      obtain ⟨l2, h11, h12⟩ := bind_some h10
      have hg2 := lpOf_some h11
      simp at h12; subst h12
      have hvl : vs.length = args.length := hargs.length
      have hy := run_yield (P := P) (args := ⟨vs⟩) hrec (by rw [hps]; simpa [hvl] using hlen)
      refine ⟨rec.fn, _, rec.assign, rec.body, hy, fun ro n => ?_⟩
      have hzip : (rec.params.zip ⟨vs⟩).foldl (fun tmps (t, a) => tmps.setIfInBounds t a) rec.tmps = (lp.ps.toList.zip vs).foldl (fun t (p, v) => t.setIfInBounds p v) rec.tmps := by
        rw [hps, ← Array.foldl_toList, Array.toList_zip]
      rw [hzip]
      obtain ⟨hs1, hs2⟩ := puts_rep (ps := lp.ps.toList) hargs hall htm hrep
      have hF : (FW ro).fn rec.fn := trivial
      refine roundIn_of_wpIn hF ?_
      rw [has]
      have hd0 : DfR ρ 0 im H w (some (ρ r).b) [] (none : Option (List Dfr)) := ⟨Nat.zero_le _, fun l hl => by cases hl⟩
      have ha := hrun lp.N lp.assign ρ im H w { tmps := (lp.ps.toList.zip vs).foldl (fun t (p, v) => t.setIfInBounds p v) rec.tmps, defers := [] } ⟨putsD lp.tmps (lp.ps.toList.zip args), none⟩ _ 0 (some (ρ r).b) n hR ⟨hs1, hs2⟩ hd0 h3
      refine wpIn_mono ha fun x a1 w1 haf => ?_
      obtain ⟨ρ1, im1, m1, he1, hd1, v1, hx1, _⟩ := haf.ex
      simp only [exOf] at hx1
      subst hx1
      simp only [Exit.then]
      obtain ⟨hr1, hlv1, rec1, hrec1, hlp1⟩ := loop_at m1.rel hg1
      have hρ1 : ρ1 r = ρ r := m1.tr.ext r hr
      rw [hρ1] at hrec1
      refine ⟨_, run_beginRound hrec1 (by rw [hlp1.1]; exact hready1), ?_⟩
      have m2 := Mv.loop m1.rel hg1 (rec := rec1) (by rw [hρ1]; exact hrec1) (rec' := { rec1 with state := .busy }) (l' := { l1 with st := .busy }) ⟨rfl, hlp1.2⟩
      rw [hρ1] at m2
      rw [hbo]
      have hb := hrun lp.N lp.body ρ1 im1 _ _ a1 e1 _ 0 (some (ρ r).b) n m2.rel (m2.env he1) (hd1.mv m2) h7
      refine wpIn_mono hb fun x a2 w2 haf2 => ?_
      obtain ⟨ρ2, im2, m3, he2, hd2, v2, hx2, _⟩ := haf2.ex
      obtain ⟨hr2, hlv2, rec2, hrec2, hlp2⟩ := loop_at m3.rel hg2
      have hρ2 : ρ2 r = ρ r := by rw [m3.tr.ext r (by simp; exact hr1), hρ1]
      rw [hρ2] at hrec2
      have m4 := Mv.loop m3.rel hg2 (rec := rec2) (by rw [hρ2]; exact hrec2) (rec' := { rec2 with state := if j.isNone then .ready else .done, pending := j }) (l' := { l2 with st := if j.isNone then .ready else .done, pend := j }) ⟨rfl, rfl, hlp2.2.2⟩
      rw [hρ2] at m4
      have hend := run_endRound (P := P) j hrec2
      have m := ((m1.trans m2).trans m3).trans m4
      have hout : OutR ρ im H w (.ok (.bool j.isNone) (s2.H.set r (.loop { l2 with st := if j.isNone then .ready else .done, pend := j }))) (.returned (.bool j.isNone)) _ := .ok ρ2 im2 _ _ _ _ m (.bool _)
      cases hx : s2.ex with
      | norm => rw [hx] at h9 hx2; simp [leftD] at h9; subst h9; simp only [exOf] at hx2; subst hx2; exact ⟨_, _, hend, hout⟩
      | ret => rw [hx] at h9 hx2; simp [leftD] at h9; subst h9; simp only [exOf] at hx2; subst hx2; exact ⟨_, _, hend, hout⟩
      | exit id => rw [hx] at h9 hx2; simp [leftD] at h9; subst h9; simp only [exOf] at hx2; subst hx2; exact ⟨_, _, hend, hout⟩
      | pan d => rw [hx] at h9; simp [leftD] at h9
    · cases h6
  · cases h2
end
end Vm
