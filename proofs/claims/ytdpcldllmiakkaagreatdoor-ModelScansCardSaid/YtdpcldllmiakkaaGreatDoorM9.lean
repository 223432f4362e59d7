/- Texts that stand behind this claim, one after the other. -/
import Derived.Test.YtdpcldllmiakkaaGreatDoorM6
import Derived.Test.YtdpcldllmiakkaaGreatDoorM8
import Derived.Test.YtdpcldllmiakkaaGreatDoorM7
set_option maxHeartbeats 4000000
set_option linter.unusedVariables false
set_option linter.unusedSimpArgs false
section
namespace Go.Proofs.W
open Go Vm Go.Proofs.Zs25
theorem clos_sub {n : Nfa} {l : List Int} {s t : Nat} (hs : (s : Int) ∈ clos n l) (ht : (t : Int) ∈ n.free.getD s []) (hk : t < n.set.length) : (t : Int) ∈ clos n l:=by
  obtain ⟨i,h1,h2,h3⟩:=mem_listZ.1 hs
  obtain rfl : s = i:=by omega
  exact mem_listZ.2 ⟨t,hk,clo_iff.2 (.step (clo_iff.1 h2) ht),rfl⟩
theorem at_path {n : Nfa} (hok : OkM n) (h1 : 1 ≤ kN n) (w : List Int) : ∀ x y,Path n w x y → x = (0,0) → y.1 < kN n ∧ y.2 ≤ w.length ∧ ((y.1 : Nat) : Int) ∈ atN n (w.take y.2):=by
  intro x y h
  induction h with
  | refl=>
    rintro rfl
    refine ⟨h1,Nat.zero_le _,?_⟩
    exact mem_listZ.2 ⟨0,h1,clo_iff.2 (.base ⟨h1,by simp⟩),rfl⟩
  | step _ g ih=>
    intro e
    obtain ⟨i1,i2,i3⟩:=ih e
    cases g with
    | @eps s t p ht=>
      have:=hok.fr s t ht
      have htk : t < kN n:=by omega
      obtain ⟨l,hl⟩:=atN_clos n (w.take p)
      simp only at i1 i2 i3 ⊢
      rw [hl] at i3 ⊢
      exact ⟨htk,i2,clos_sub i3 ht htk⟩
    | @sym s t p c hc hh hto=>
      simp only at i1 i2 i3 ⊢
      have hp : p < w.length:=by
        rcases Nat.lt_or_ge p w.length with h | h
        · exact h
        · rw [List.getElem?_eq_none h] at hc;cases hc
      have hset : n.set.getD s 0 ≠ 0:=fun e=>by rw [hit_zero e] at hh;cases hh
      have hst:=hok.st s hset
      have htk : t < kN n:=by omega
      refine ⟨htk,by omega,?_⟩
      rw [atN_take hp]
      have hcw : w[p] = c:=by rw [List.getElem?_eq_getElem hp] at hc;exact Option.some.inj hc
      rw [hcw]
      refine mem_listZ.2 ⟨t,htk,clo_iff.2 (.base ⟨htk,mem_listZ.2 ⟨t,htk,?_,rfl⟩⟩),rfl⟩
      simp only [stepTo,List.any_eq_true,List.mem_range,Bool.and_eq_true,decide_eq_true_eq]
      exact ⟨s,i1,⟨i3,hh⟩,hto⟩
theorem path_at {n : Nfa} (w : List Int) : ∀ (j s : Nat),j ≤ w.length → (s : Int) ∈ atN n (w.take j) → Path n w (0,0) (s,j)
  | 0,s,_,h=>by
    obtain ⟨i,h1,h2,h3⟩:=mem_listZ.1 h
    obtain rfl : s = i:=by omega
    have hr:=clo_iff.1 h2
    clear h h1 h2 h3
    induction hr with
    | @base s' hb=>
      have e : s' = 0:=by simpa [inS] using hb.2
      subst e;exact .refl
    | step _ ht ih=>exact .step ih (.eps ht)
  | j + 1,s,hj,h=>by
    have hjw : j < w.length:=by omega
    rw [atN_take hjw] at h
    obtain ⟨i,h1,h2,h3⟩:=mem_listZ.1 h
    obtain rfl : s = i:=by omega
    have hr:=clo_iff.1 h2
    clear h h1 h2 h3
    induction hr with
    | base hb=>
      obtain ⟨t,g1,g2,g3⟩:=mem_listZ.1 hb.2
      simp only [stepTo,List.any_eq_true,List.mem_range,Bool.and_eq_true,decide_eq_true_eq] at g2
      obtain ⟨x,k1,⟨k2,k3⟩,k4⟩:=g2
      rw [← g3] at k4
      exact .step (path_at w j x (by omega) k2) (.sym (List.getElem?_eq_getElem hjw) k3 k4)
    | step _ ht ih=>exact .step ih (.eps ht)
theorem goodR_step {n : Nfa} {w : List Int} : ∀ (l : List Rx) (a : Nat) (fl : List Bool) (x p : Nat) (y : Nat × Nat),FragR n l a → shapesL l = true → fl.length = w.length + 1 → GoodL w 3 l a fl x p → Go1 n w (x,p) y → GoodL w 3 l a fl y.1 y.2
  | [],a,fl,x,p,y,_,_,_,hg,_=>by simp [GoodL] at hg
  | r :: l,a,fl,x,p,y,hf,hs,hfl,hg,g=>by
    obtain ⟨h1,h2,h3⟩:=hf
    simp only [shapesL,Bool.and_eq_true] at hs
    simp only [GoodL,if_neg (show ¬ (3 : Int) = 2 by omega)] at hg ⊢
    rcases hg with hg | hg
    · by_cases hx : x = endOf r a
      · subst hx
        obtain ⟨t,ht,rfl⟩:=go_cases h2 g
        cases ht
      · exact .inl (good_step n w r a fl x p y h1 hs.1 hfl hg hx g)
    · exact .inr (goodR_step l _ fl x p y h3 hs.2 hfl hg g)
theorem goodR_end {w : List Int} : ∀ (l : List Rx) (a : Nat) (fl : List Bool) (s p i : Nat),(endsP l a)[i]? = some s → GoodL w 3 l a fl s p → ∃ r,l[i]? = some r ∧ at' (endsR w r fl) p
  | [],a,fl,s,p,i,h,_=>by simp [endsP] at h
  | r :: l,a,fl,s,p,i,h,hg=>by
    have hp:=sizeR_pos r
    simp only [GoodL,if_neg (show ¬ (3 : Int) = 2 by omega)] at hg
    simp only [endsP] at h
    cases i with
    | zero=>
      have hs : endOf r a = s:=by simpa using h
      rcases hg with hg | hg
      · rw [← hs] at hg
        exact ⟨r,rfl,good_end w r a hg⟩
      · have:=goodL_rng w 3 l _ fl s p hg
        simp only [endOf] at hs;omega
    | succ i=>
      have h' : (endsP l (a + 2 * sizeR r))[i]? = some s:=by simpa using h
      rcases hg with hg | hg
      · have h3:=endsP_rng l _ s (List.mem_of_getElem? h')
        have h4:=good_rng w r a fl s p hg
        simp only [endOf] at h4;omega
      · obtain ⟨r',k1,k2⟩:=goodR_end l _ fl s p i h' hg
        exact ⟨r',by simpa using k1,k2⟩
theorem frag_at {n : Nfa} : ∀ (l : List Rx) (a : Nat) (i : Nat) (r : Rx),FragR n l a → l[i]? = some r → ∃ x,x ∈ starts l a ∧ Frag n r x ∧ (endsP l a)[i]? = some (endOf r x)
  | [],a,i,r,_,h=>by simp at h
  | z :: l,a,i,r,hf,h=>by
    obtain ⟨h1,h2,h3⟩:=hf
    cases i with
    | zero=>
      have : z = r:=by simpa using h
      subst this
      exact ⟨a,by simp [starts],h1,by simp [endsP]⟩
    | succ i=>
      obtain ⟨x,g1,g2,g3⟩:=frag_at l _ i r h3 (by simpa using h)
      exact ⟨x,by simp [starts,g1],g2,by simpa [endsP] using g3⟩
theorem has_at {w : List Int} {r : Rx} : hasR w r = true ↔ at' (endsR w r (startB w.length)) w.length:=Iff.rfl
theorem start_at {m p : Nat} : at' (startB m) p ↔ p = 0:=by
  unfold at' startB
  cases p with
  | zero=>simp
  | succ p=>
    simp only [List.getD_eq_getElem?_getD,List.getElem?_cons_succ,List.getElem?_replicate]
    split <;> simp
theorem leads {n : Nfa} {l : List Rx} (h : Pre n l) (hr : ∀ r ∈ l,rightR r = true) (w : List Int) {i s : Nat} {r : Rx} (hi : l[i]? = some r) (hs : (endsP l 1)[i]? = some s) : (s : Int) ∈ atN n w ↔ hasR w r = true:=by
  have hsl : shapesL l = true:=by rw [shapesL_eq,List.all_eq_true];exact fun x hx=>(sizes hr x hx).2
  have hw : w.take w.length = w:=List.take_length
  constructor
  · intro hm
    rw [← hw] at hm
    have hp:=path_at (n:=n) w w.length s (Nat.le_refl _) hm
    have key : ∀ x y,Path n w x y → x = (0,0) → y = (0,0) ∨ GoodL w 3 l 1 (startB w.length) y.1 y.2:=by
      intro x y hp
      induction hp with
      | refl=>exact fun e=>.inl e
      | step _ g ih=>
        intro e
        rcases ih e with rfl | hg
        · obtain ⟨t,ht,rfl⟩:=go_cases h.s0 g
          exact .inr (good_starts w 3 (by omega) l 1 ht (start_at.2 rfl))
        · exact .inr (goodR_step l 1 _ _ _ _ h.fr hsl (start_len _) hg g)
    rcases key _ _ hp rfl with e | hg
    · have:=endsP_rng l 1 s (List.mem_of_getElem? hs)
      have : s = 0:=congrArg Prod.fst e
      omega
    · obtain ⟨r',k1,k2⟩:=goodR_end l 1 _ s w.length i hs hg
      rw [hi] at k1;cases k1
      exact has_at.2 k2
  · intro hh
    obtain ⟨x,g1,g2,g3⟩:=frag_at l 1 i r h.fr hi
    rw [hs] at g3
    cases g3
    obtain ⟨i0,k1,k2⟩:=sound n w r x _ _ g2 (sizes hr r (List.mem_of_getElem? hi)).2 (start_len _) (has_at.1 hh)
    rw [start_at] at k1
    subst k1
    have hp : Path n w (0,0) (endOf r x,w.length):=(Path.one (go_free h.s0 g1)).trans k2
    have:=at_path h.ok (by rw [h.k];omega) w _ _ hp rfl
    have h3:=this.2.2
    simp only [hw] at h3
    exact h3
def firstZ (w : List Int) : List Rx → Nat → Int
  | [],_=>-1
  | r :: l,i=>if hasR w r then (i : Int) else firstZ w l (i + 1)
theorem firstZ_spec (w : List Int) : ∀ (l : List Rx) (i0 : Nat),(firstZ w l i0 = -1 ∧ ∀ r ∈ l,hasR w r = false) ∨ ∃ i r,l[i]? = some r ∧ hasR w r = true ∧ firstZ w l i0 = ((i0 + i : Nat) : Int) ∧ ∀ i' r',i' < i → l[i']? = some r' → hasR w r' = false
  | [],i0=>.inl ⟨rfl,by simp⟩
  | r :: l,i0=>by
    simp only [firstZ]
    cases hh : hasR w r with
    | true=>exact .inr ⟨0,r,rfl,hh,by simp,fun i' r' h=>by omega⟩
    | false=>
      simp only [Bool.false_eq_true,if_false]
      rcases firstZ_spec w l (i0 + 1) with ⟨h1,h2⟩ | ⟨i,r',h1,h2,h3,h4⟩
      · refine .inl ⟨h1,fun x hx=>?_⟩
        rcases List.mem_cons.1 hx with rfl | hx
        · exact hh
        · exact h2 x hx
      · refine .inr ⟨i + 1,r',by simpa using h1,h2,by rw [h3];congr 1;omega,fun i' x hi' hx=>?_⟩
        cases i' with
        | zero => have : r = x := by simpa using hx
                  subst this;exact hh
        | succ i'=>exact h4 i' x (by omega) (by simpa using hx)
theorem match_first {n : Nfa} {l : List Rx} (h : Pre n l) (hr : ∀ r ∈ l,rightR r = true) (hn : rightN n = true) (w : List Int) : matchN n w = firstZ w l 0:=by
  unfold matchN
  rw [if_pos hn]
  have hlR : n.rule.length = n.set.length:=h.ok.lR
  have hmem : ∀ x,x ∈ (atN n w).map (fun s=>n.rule.getD s.toNat 0) → 0 ≤ x → ∃ (i : Nat) (r : Rx),l[i]? = some r ∧ x = (i : Int) ∧ hasR w r = true:=by
    intro x hx h0
    obtain ⟨s,hs,rfl⟩:=List.mem_map.1 hx
    obtain ⟨L,hL⟩:=atN_clos n w
    have hs':=hs
    rw [hL] at hs'
    have hrng:=clos_in hs'
    have e : n.rule.getD s.toNat 0 = n.rule.getD s.toNat (-1):=getD_def (by omega)
    rw [e] at h0 ⊢
    obtain ⟨i,hi⟩ : ∃ i : Nat,n.rule.getD s.toNat (-1) = (i : Int):=⟨(n.rule.getD s.toNat (-1)).toNat,by omega⟩
    have he:=(h.ru _ _).1 hi
    have hil : i < l.length:=by
      rcases Nat.lt_or_ge i l.length with h' | h'
      · exact h'
      · rw [List.getElem?_eq_none (by rw [endsP_len];omega)] at he;cases he
    refine ⟨i,l[i],List.getElem?_eq_getElem hil,hi,(leads h hr w (List.getElem?_eq_getElem hil) he).1 ?_⟩
    rw [show ((s.toNat : Nat) : Int) = s by omega];exact hs
  have hin : ∀ (i : Nat) (r : Rx),l[i]? = some r → hasR w r = true → (i : Int) ∈ (atN n w).map (fun s=>n.rule.getD s.toNat 0):=by
    intro i r hi hh
    have hil : i < l.length:=by
      rcases Nat.lt_or_ge i l.length with h' | h'
      · exact h'
      · rw [List.getElem?_eq_none h'] at hi;cases hi
    obtain ⟨s,hs⟩ : ∃ s,(endsP l 1)[i]? = some s:=⟨_,List.getElem?_eq_getElem (by rw [endsP_len];exact hil)⟩
    have hm:=(leads h hr w hi hs).2 hh
    refine List.mem_map.2 ⟨(s : Int),hm,?_⟩
    have hru:=(h.ru s i).2 hs
    have hsl:=endsP_rng l 1 s (List.mem_of_getElem? hs)
    have hk:=h.k
    simp only [kN] at hk
    rw [Int.toNat_natCast,getD_def (e:=(-1 : Int)) (by omega)];exact hru
  refine best_eq ?_
  rcases firstZ_spec w l 0 with ⟨h1,h2⟩ | ⟨i,r,h1,h2,h3,h4⟩
  · rw [h1]
    refine .inl ⟨rfl,fun x hx=>?_⟩
    by_cases h0 : 0 ≤ x
    · obtain ⟨i,r,g1,g2,g3⟩:=hmem x hx h0
      rw [h2 r (List.mem_of_getElem? g1)] at g3;cases g3
    · omega
  · rw [h3,Nat.zero_add]
    refine .inr ⟨by omega,hin i r h1 h2,fun x hx h0=>?_⟩
    obtain ⟨i',r',g1,g2,g3⟩:=hmem x hx h0
    rw [g2]
    rcases Nat.lt_or_ge i' i with h' | h'
    · rw [h4 i' r' h' g1] at g3;cases g3
    · omega
end Go.Proofs.W
end
section
namespace Go.Proofs.W
open Go Vm Go.Proofs.Zs25
structure Dfa where
  next : List (List Int)
  rule : List Int
def rowD (r : List Int) : D:=.agg (r.map (.int .i64))
def rowsD (l : List (List Int)) : D:=.sl false (l.map rowD)
def dfaD (d : Dfa) : D:=.agg [rowsD d.next,isD d.rule]
def tyM (d : Dfa) : Prop:=∀ r ∈ d.next,r.length = 16
theorem strip_row (r : List Int) : strip (rowD r) = some (rowD r):=by simp [rowD,strip,strip_ints]
theorem strip_rows (l : List (List Int)) : stripL (l.map rowD) = some (l.map rowD):=by
  induction l with
  | nil=>rfl
  | cons q r ih=>simp [stripL,ih,strip_row]
theorem strip_rowsD (l : List (List Int)) : strip (rowsD l) = some (rowsD l):=by simp [rowsD,strip,strip_rows]
theorem strip_dfa (d : Dfa) : strip (dfaD d) = some (dfaD d):=by simp [dfaD,strip,stripL,strip_rowsD,strip_is]
theorem dfa_noTup (d : Dfa) : noTup (dfaD d) = true:=rfl
theorem dfa_cells (d : Dfa) : (dfaD d).cells = [.sl false (d.next.map rowD),.sl false (d.rule.map (.int .i64))]:=rfl
theorem dfa_aggQ (d : Dfa) : aggQ (dfaD d) = true:=rfl
theorem row_noTup (r : List Int) : noTup (rowD r) = true:=rfl
theorem row_cells (r : List Int) : (rowD r).cells = r.map (.int .i64):=rfl
theorem row_aggQ (r : List Int) : aggQ (rowD r) = true:=rfl
def toOk (n : Nat) (t : Int) : Bool:=decide (-1 ≤ t) && decide (t < n)
def rowOkD (d : Dfa) (i : Nat) : Bool:=decide (-1 ≤ d.rule.getD i 0) && decide (d.rule.getD i 0 < 16) && (d.next.getD i []).all (toOk d.next.length)
def rightD (d : Dfa) : Bool:=decide (1 ≤ d.next.length ∧ d.next.length ≤ 200 ∧ d.rule.length = d.next.length) && allN (rowOkD d) 0 d.next.length
theorem row_get {d : Dfa} {i : Nat} (h : i < d.next.length) : (d.next.map rowD)[i]? = some (rowD d.next[i]):=by simp [h]
theorem rowOkD_at {d : Dfa} {i : Nat} (h : i < d.next.length) (h2 : i < d.rule.length) : rowOkD d i = (decide (-1 ≤ d.rule[i]) && decide (d.rule[i] < 16) && (d.next[i].drop 0).all (toOk d.next.length)):=by
  simp [rowOkD,List.getD,h,h2]
theorem dright_ok (d : Dfa) (ht : tyM d) (hs : d.next.length ≤ 1000000) (hs2 : d.rule.length ≤ 9223372036854775807) : PureF Tryz.prog A 57 [dfaD d] (.bool (rightD d)):=by
  have a1:=dfa_noTup d
  have a2:=dfa_cells d
  have a3:=dfa_aggQ d
  refine evF_inB (n:=59) (rs:=[.tmp 2]) Tryz.func57 rfl rfl rfl rfl rfl rfl ?_
  by_cases c : 1 ≤ d.next.length ∧ d.next.length ≤ 200 ∧ d.rule.length = d.next.length
  case neg=>
    have hz : rightD d = false:=by simp only [rightD,c,decide_false,Bool.false_and]
    rw [hz]
    repeat' (first | apply wz1|apply wz2|apply wz3|apply wz4|apply wz5|apply wz6 | simp -dsimp (maxSteps:=999999) (disch:=omega) only[go_sem,simprocAttr, *] | ((first | refine wz8 ?_ ?_|refine wz9 ?_ ?_|refine wz7 ?_ ?_)<;>intro hh <;> (try replace hh:=vqs hh) <;> (try (exfalso;first | exact hh | omega))))
  have hz : rightD d = allN (rowOkD d) 0 d.next.length:=by simp only [rightD,c,and_self,decide_true,Bool.true_and]
  rw [hz]
  generalize hG : allN (rowOkD d) 0 d.next.length = G
  clear hz
  obtain ⟨c1,c2,c3⟩:=c
  replace hG : Hid (allN (rowOkD d) 0 d.next.length = G):=hG
  repeat' (first | apply wz1|apply wz2|apply wz3|apply wz4|apply wz5|apply wz6 | simp -dsimp (maxSteps:=999999) (disch:=omega) only[go_sem,simprocAttr, *] | ((first | refine wz8 ?_ ?_|refine wz9 ?_ ?_|refine wz7 ?_ ?_)<;>intro hh <;> (try replace hh:=vqs hh) <;> (try (exfalso;first | exact hh | omega))))
  have c4 : d.rule.length ≤ d.next.length:=by omega
  replace c3 : d.next.length ≤ d.rule.length:=by omega
  refine wpB_loop (fun e H=>∃ j m : Nat,j + m = d.next.length ∧ hget H 0 = .arr [dfaD d] ∧ 1 ≤ H.length ∧ e 1 = .ptr 0 0 0 ∧ e 3 = .int .i64 d.next.length ∧ e 25 = .sl false (d.next.map rowD) ∧ e 26 = .int .i64 d.next.length ∧ e 27 = .int .i64 j ∧ G = allN (rowOkD d) j m) (fun e H=>d.next.length - natOf (e 27)) ?_ ?_
  · exact ⟨0,d.next.length,by omega,rfl,by simp,gs,gs,gs,gs,gs,Eq.symm hG⟩
  clear hG
  rintro e H ⟨j,m,hj,h0,hl,e1,e3,e25,e26,e27,ha⟩ R hR
  by_cases hb : j < d.next.length
  case neg=>
    obtain rfl : m = 0:=by omega
    have : G = true:=ha
    subst this
    clear hj ha
    repeat' (first | apply wz1|apply wz2|apply wz3|apply wz4|apply wz5|apply wz6 | simp -dsimp (maxSteps:=999999) (disch:=omega) only[go_sem,simprocAttr, *] | ((first | refine wz8 ?_ ?_|refine wz9 ?_ ?_|refine wz7 ?_ ?_)<;>intro hh <;> (try replace hh:=vqs hh) <;> (try (exfalso;first | exact hh | omega))))
  obtain ⟨m,rfl⟩ : ∃ x,m = x + 1:=⟨m - 1,by omega⟩
  have hjr : j < d.rule.length:=by omega
  have hrow:=row_get hb
  have hlen:=ht _ (List.getElem_mem hb)
  rw [allN,rowOkD_at hb hjr] at ha
  generalize d.next[j] = row at hrow hlen ha
  generalize hru : d.rule[j] = ru at ha
  replace ha : Hid (G = ((decide (-1 ≤ ru) && decide (ru < 16) && (row.drop 0).all (toOk d.next.length)) && allN (rowOkD d) (j + 1) m)):=ha
  have b1:=row_noTup row
  have b2:=row_cells row
  have b3:=row_aggQ row
  repeat' (first | apply wz1|apply wz2|apply wz3|apply wz4|apply wz5|apply wz6 | simp -dsimp (maxSteps:=999999) (disch:=omega) only[go_sem,simprocAttr, *] | ((first | refine wz8 ?_ ?_|refine wz9 ?_ ?_|refine wz7 ?_ ?_)<;>intro hh <;> (try replace hh:=vqs hh) <;> (try (exfalso;first | exact hh | omega))))
  · have : G = false:=by rw [show G = _ from ha];simp;omega
    rw [this]
  rotate_left
  · have : G = false:=by rw [show G = _ from ha];simp;omega
    rw [this]
  have ha2 : Hid (G = ((row.drop 0).all (toOk d.next.length) && allN (rowOkD d) (j + 1) m)):=by
    show G = _
    rw [show G = _ from ha]
    simp [*]
  clear ha
  refine wpB_loop (fun e H=>∃ i : Nat,i ≤ 16 ∧ hget H 0 = .arr [dfaD d] ∧ 1 ≤ H.length ∧ e 1 = .ptr 0 0 0 ∧ e 3 = .int .i64 d.next.length ∧ e 25 = .sl false (d.next.map rowD) ∧ e 26 = .int .i64 d.next.length ∧ e 27 = .int .i64 j ∧ e 46 = rowD row ∧ e 47 = .int .i64 i ∧ G = ((row.drop i).all (toOk d.next.length) && allN (rowOkD d) (j + 1) m)) (fun e H=>16 - natOf (e 47)) ?_ ?_
  · exact ⟨0,by omega,gs,by simp,gs,gs,gs,gs,gs,gs,gs,ha2⟩
  have k27:=e27
  clear ha2 e1 e3 e25 e26 e27 h0
  rintro e2 H2 ⟨i,hi,h0,hl2,e1,e3,e25,e26,e27,e46,e47,ha⟩ R2 hR2
  by_cases hb2 : i < 16
  case neg=>
    rw [List.drop_eq_nil_of_le (by omega)] at ha
    repeat' (first | apply wz1|apply wz2|apply wz3|apply wz4|apply wz5|apply wz6 | simp -dsimp (maxSteps:=999999) (disch:=omega) only[go_sem,simprocAttr, *] | ((first | refine wz8 ?_ ?_|refine wz9 ?_ ?_|refine wz7 ?_ ?_)<;>intro hh <;> (try replace hh:=vqs hh) <;> (try (exfalso;first | exact hh | omega))))
    refine hR _ _ ⟨j + 1,m,by omega,gs,by omega,gs,gs,gs,gs,gs,by simpa using ha⟩ ?_
    simp -dsimp (maxSteps:=999999) (disch:=omega) only[go_sem,simprocAttr, *,natOf_int]
  have hil : i < row.length:=by omega
  rw [allL_drop hil] at ha
  have hcell : (row.map (D.int .i64))[i * 1]? = some (.int .i64 row[i]):=by simp [hil]
  generalize row[i] = t at ha hcell
  replace ha : Hid (G = ((toOk d.next.length t && (row.drop (i + 1)).all (toOk d.next.length)) && allN (rowOkD d) (j + 1) m)):=ha
  repeat' (first | apply wz1|apply wz2|apply wz3|apply wz4|apply wz5|apply wz6 | simp -dsimp (maxSteps:=999999) (disch:=omega) only[go_sem,simprocAttr, *,rowD] | ((first | refine wz8 (fun hh=>?_) (fun hh=>?_) | refine wz9 (fun hh=>?_) (fun hh=>?_) | refine wpB_cond (by simp -dsimp (maxSteps:=999999) (disch:=omega) only[go_sem,simprocAttr, *,rowD];exact rfl) (fun hh=>?_) (fun hh=>?_)) <;> (try replace hh:=vqs hh) <;> (try (exfalso;first | exact hh | omega))))
  · have : G = false:=by rw [show G = _ from ha];simp [toOk];omega
    rw [this]
  · refine hR2 _ _ ⟨i + 1,by omega,gs,by omega,gs,gs,gs,gs,gs,gs,gs,?_⟩ ?_
    · rw [show G = _ from ha]
      have : toOk d.next.length t = true:=by simp [toOk];omega
      rw [this];rfl
    · simp -dsimp (maxSteps:=999999) (disch:=omega) only[go_sem,simprocAttr, *,natOf_int]
  · have : G = false:=by rw [show G = _ from ha];simp [toOk];omega
    rw [this]
def nextD (d : Dfa) (at_ c : Int) : Int:=if c < 0 ∨ 16 ≤ c then -1 else (d.next.getD at_.toNat []).getD c.toNat 0
theorem dnext_ok (d : Dfa) (a c : Int) (ht : tyM d) (h0 : 0 ≤ a) (h1 : a < d.next.length) (hs : d.next.length ≤ 1000000) : PureF Tryz.prog A 78 [dfaD d,.int .i64 a,.int .i64 c] (.int .i64 (nextD d a c)):=by
  have a1:=dfa_noTup d
  have a2:=dfa_cells d
  have a3:=dfa_aggQ d
  refine evF_inB (n:=20) (rs:=[.tmp 6]) Tryz.func78 rfl rfl rfl rfl rfl rfl ?_
  by_cases hc : c < 0 ∨ 16 ≤ c
  · have hz : nextD d a c = -1:=by simp [nextD,hc]
    rw [hz]
    rcases hc with hc | hc
    · repeat' (first | apply wz1|apply wz2|apply wz3|apply wz4|apply wz5|apply wz6 | simp -dsimp (maxSteps:=999999) (disch:=omega) only[go_sem,simprocAttr, *] | ((first | refine wz8 ?_ ?_|refine wz9 ?_ ?_|refine wz7 ?_ ?_)<;>intro hh <;> (try replace hh:=vqs hh) <;> (try (exfalso;first | exact hh | omega))))
    · repeat' (first | apply wz1|apply wz2|apply wz3|apply wz4|apply wz5|apply wz6 | simp -dsimp (maxSteps:=999999) (disch:=omega) only[go_sem,simprocAttr, *] | ((first | refine wz8 ?_ ?_|refine wz9 ?_ ?_|refine wz7 ?_ ?_)<;>intro hh <;> (try replace hh:=vqs hh) <;> (try (exfalso;first | exact hh | omega))))
  · have hb : a.toNat < d.next.length:=by omega
    have hrow:=row_get hb
    have hlen:=ht _ (List.getElem_mem hb)
    have hz : nextD d a c = d.next[a.toNat].getD c.toNat 0:=by unfold nextD;rw [if_neg hc];simp [List.getD,hb]
    rw [hz]
    generalize d.next[a.toNat] = row at hrow hlen
    have hil : c.toNat < row.length:=by omega
    have hcell : (row.map (D.int .i64))[c.toNat * 1]? = some (.int .i64 row[c.toNat]):=by simp [hil]
    have hg : row.getD c.toNat 0 = row[c.toNat]:=by simp [List.getD,hil]
    rw [hg]
    generalize row[c.toNat] = t at hcell
    clear hz hg
    have hc1 : 0 ≤ c:=by omega
    have hc2 : c < 16:=by omega
    clear hc
    have b1:=row_noTup row
    have b2:=row_cells row
    have b3:=row_aggQ row
    repeat' (first | apply wz1|apply wz2|apply wz3|apply wz4|apply wz5|apply wz6 | simp -dsimp (maxSteps:=999999) (disch:=omega) only[go_sem,simprocAttr, *,rowD] | ((first | refine wz8 (fun hh=>?_) (fun hh=>?_) | refine wz9 (fun hh=>?_) (fun hh=>?_) | refine wpB_cond (by simp -dsimp (maxSteps:=999999) (disch:=omega) only[go_sem,simprocAttr, *,rowD];exact rfl) (fun hh=>?_) (fun hh=>?_)) <;> (try replace hh:=vqs hh) <;> (try (exfalso;first | exact hh | omega))))
def runD (d : Dfa) : Int → List Int → Int
  | a,[]=>a
  | a,c :: w=>if nextD d a c < 0 then -1 else runD d (nextD d a c) w
theorem row_of {d : Dfa} (hr : rightD d = true) {i : Nat} (h : i < d.next.length) : -1 ≤ d.rule.getD i 0 ∧ d.rule.getD i 0 < 16 ∧ ∀ t ∈ d.next.getD i [],-1 ≤ t ∧ t < d.next.length:=by
  unfold rightD at hr
  simp only [Bool.and_eq_true] at hr
  have:=allN_iff.1 hr.2 i (by omega) (by omega)
  unfold rowOkD at this
  simp only [Bool.and_eq_true,decide_eq_true_eq,List.all_eq_true] at this
  refine ⟨this.1.1,this.1.2,fun t ht=>?_⟩
  have:=this.2 t ht
  unfold toOk at this
  simp only [Bool.and_eq_true,decide_eq_true_eq] at this
  exact this
theorem right_len {d : Dfa} (hr : rightD d = true) : 1 ≤ d.next.length ∧ d.next.length ≤ 200 ∧ d.next.length ≤ d.rule.length ∧ d.rule.length ≤ d.next.length:=by
  unfold rightD at hr
  simp only [Bool.and_eq_true,decide_eq_true_eq] at hr
  omega
theorem next_in {d : Dfa} (hr : rightD d = true) (ht : tyM d) {a c : Int} (h0 : 0 ≤ a) (h1 : a < d.next.length) : -1 ≤ nextD d a c ∧ nextD d a c < d.next.length:=by
  have hl:=right_len hr
  unfold nextD
  split
  · omega
  · have hb : a.toNat < d.next.length:=by omega
    obtain ⟨_,_,h⟩:=row_of hr hb
    have hlen:=ht _ (List.getElem_mem hb)
    have e : d.next.getD a.toNat [] = d.next[a.toNat]:=by simp [List.getD,hb]
    rw [e] at h ⊢
    have hil : c.toNat < d.next[a.toNat].length:=by omega
    have e2 : d.next[a.toNat].getD c.toNat 0 = d.next[a.toNat][c.toNat]:=by simp [List.getD,hil]
    rw [e2]
    exact h _ (List.getElem_mem hil)
theorem runD_in {d : Dfa} (hr : rightD d = true) (ht : tyM d) : ∀ {w : List Int} {a : Int},0 ≤ a → a < d.next.length → -1 ≤ runD d a w ∧ runD d a w < d.next.length
  | [],a,h0,h1=>by simp only [runD];omega
  | c :: w,a,h0,h1=>by
    have:=next_in hr ht (c:=c) h0 h1
    simp only [runD]
    split
    · omega
    · exact runD_in hr ht (by omega) this.2
theorem stripD (d : Dfa) : stripL [dfaD d] = some [dfaD d]:=strip1 (strip_dfa d)
theorem stripDii (d : Dfa) (a c : Int) : stripL [dfaD d,.int .i64 a,.int .i64 c] = some [dfaD d,.int .i64 a,.int .i64 c]:=strip3 (strip_dfa d) rfl rfl
theorem stripDw (d : Dfa) (w : List Int) : stripL [dfaD d,isD w] = some [dfaD d,isD w]:=strip2 (strip_dfa d) (strip_is w)
theorem stripDwi (d : Dfa) (w : List Int) (c : Int) : stripL [dfaD d,isD w,.int .i64 c] = some [dfaD d,isD w,.int .i64 c]:=strip3 (strip_dfa d) (strip_is w) rfl
end Go.Proofs.W
end
section
namespace Go.Proofs.W
open Go Vm Go.Proofs.Zs25
def ruleAt (d : Dfa) (a : Int) : Int:=d.rule.getD a.toNat 0
theorem rule_cell {d : Dfa} {a : Int} (h0 : 0 ≤ a) (h1 : a < d.rule.length) : (d.rule.map (D.int .i64))[a.toNat]? = some (.int .i64 (ruleAt d a)):=by
  have hb : a.toNat < d.rule.length:=by omega
  simp [ruleAt,List.getD,hb]
def lgD (d : Dfa) : Int → Int → List Int → Int × Int → Int × Int
  | _,_,[],er=>er
  | a,p,c :: w,er=>if nextD d a c < 0 then er else lgD d (nextD d a c) (p + 1) w (if 0 ≤ ruleAt d (nextD d a c) then (p + 1,ruleAt d (nextD d a c)) else er)
def longD (d : Dfa) (w : List Int) (f : Int) : Int × Int:=if rightD d = true ∧ 0 ≤ f ∧ f ≤ w.length then lgD d 0 f (w.drop f.toNat) (-1,-1) else (-1,-1)
def pairD (x : Int × Int) : D:=.tup [.int .i64 x.1,.int .i64 x.2]
theorem dlong_ok (d : Dfa) (w : List Int) (f : Int) (ht : tyM d) (hs : d.next.length ≤ 1000000) (hs2 : d.rule.length ≤ 9223372036854775807) (hw : w.length ≤ 1000000) : PureF Tryz.prog A 58 [dfaD d,isD w,.int .i64 f] (pairD (longD d w f)):=by
  have a1:=dfa_noTup d
  have a2:=dfa_cells d
  have a3:=dfa_aggQ d
  have ew : isD w = .sl false (w.map (.int .i64)):=rfl
  refine evF_inB (n:=61) (rs:=[.tmp 6,.tmp 7]) Tryz.func58 rfl rfl rfl rfl rfl rfl ?_
  repeat' (first | apply wz1|apply wz2|apply wz3|apply wz4|apply wz5|apply wz6 | simp -dsimp (maxSteps:=999999) (disch:=omega) only[go_sem,simprocAttr, *] | ((first | refine wz8 ?_ ?_|refine wz9 ?_ ?_|refine wz7 ?_ ?_)<;>intro hh <;> (try replace hh:=vqs hh) <;> (try (exfalso;first | exact hh | omega))))
  refine evB_plain bo57 rfl rfl (stripD d) (dright_ok d ht hs hs2) ?_
  cases hr : rightD d with
  | false=>
    have hz : longD d w f = (-1,-1):=by unfold longD;rw [hr];simp
    rw [hz]
    repeat' (first | apply wz1|apply wz2|apply wz3|apply wz4|apply wz5|apply wz6 | simp -dsimp (maxSteps:=999999) (disch:=omega) only[go_sem,simprocAttr, *,pairD] | ((first | refine wz8 (fun hh=>?_) (fun hh=>?_) | refine wz9 (fun hh=>?_) (fun hh=>?_) | refine wpB_cond (by simp -dsimp (maxSteps:=999999) (disch:=omega) only[go_sem,simprocAttr, *,pairD];exact rfl) (fun hh=>?_) (fun hh=>?_)) <;> (try replace hh:=vqs hh) <;> (try (exfalso;first | exact hh | omega))))
    rfl
  | true=>
    have hl:=right_len hr
    by_cases hf0 : f < 0
    · have hz : longD d w f = (-1,-1):=by unfold longD;rw [if_neg (by omega)]
      rw [hz]
      repeat' (first | apply wz1|apply wz2|apply wz3|apply wz4|apply wz5|apply wz6 | simp -dsimp (maxSteps:=999999) (disch:=omega) only[go_sem,simprocAttr, *,pairD] | ((first | refine wz8 (fun hh=>?_) (fun hh=>?_) | refine wz9 (fun hh=>?_) (fun hh=>?_) | refine wpB_cond (by simp -dsimp (maxSteps:=999999) (disch:=omega) only[go_sem,simprocAttr, *,pairD];exact rfl) (fun hh=>?_) (fun hh=>?_)) <;> (try replace hh:=vqs hh) <;> (try (exfalso;first | exact hh | omega))))
      rfl
    by_cases hf1 : (w.length : Int) < f
    · have hz : longD d w f = (-1,-1):=by unfold longD;rw [if_neg (by omega)]
      rw [hz]
      repeat' (first | apply wz1|apply wz2|apply wz3|apply wz4|apply wz5|apply wz6 | simp -dsimp (maxSteps:=999999) (disch:=omega) only[go_sem,simprocAttr, *,pairD] | ((first | refine wz8 (fun hh=>?_) (fun hh=>?_) | refine wz9 (fun hh=>?_) (fun hh=>?_) | refine wpB_cond (by simp -dsimp (maxSteps:=999999) (disch:=omega) only[go_sem,simprocAttr, *,pairD];exact rfl) (fun hh=>?_) (fun hh=>?_)) <;> (try replace hh:=vqs hh) <;> (try (exfalso;first | exact hh | omega))))
      rfl
    have hz : longD d w f = lgD d 0 f (w.drop f.toNat) (-1,-1):=by unfold longD;rw [if_pos ⟨hr,by omega,by omega⟩]
    rw [hz]
    have hwl : (w.drop f.toNat).length = w.length - f.toNat:=List.length_drop
    have hdr : List.drop f.toNat (List.take w.length (List.map (D.int .i64) w)) = (w.drop f.toNat).map (.int .i64):=by rw [← List.map_take,List.take_length,List.map_drop]
    have hhd:=headInts w
    generalize hG : lgD d 0 f (w.drop f.toNat) (-1,-1) = G
    replace hG : Hid (G = lgD d 0 (f + ((0 : Nat) : Int)) ((w.drop f.toNat).drop 0) (-1,-1)):=by show G = _;rw [← hG];simp
    clear hz
    generalize hu : w.drop f.toNat = u at hwl hdr hG
    have hul : u.length ≤ 1000000:=by omega
    have huf : f + u.length ≤ 1000000:=by omega
    clear hwl
    repeat' (first | apply wz1|apply wz2|apply wz3|apply wz4|apply wz5|apply wz6 | simp -dsimp (maxSteps:=999999) (disch:=omega) only[go_sem,simprocAttr, *] | ((first | refine wz8 ?_ ?_|refine wz9 ?_ ?_|refine wz7 ?_ ?_)<;>intro hh <;> (try replace hh:=vqs hh) <;> (try (exfalso;first | exact hh | omega))))
    refine wpB_loop (fun e H=>∃ (j : Nat) (a x y : Int),j ≤ u.length ∧ hget H 0 = .arr [dfaD d] ∧ e 2 = .int .i64 f ∧ e 3 = .ptr 0 0 0 ∧ e 8 = .int .i64 x ∧ e 9 = .int .i64 y ∧ e 10 = .int .i64 a ∧ e 30 = .sl false (u.map (.int .i64)) ∧ e 31 = .int .i64 u.length ∧ e 32 = .int .i64 j ∧ 0 ≤ a ∧ a < d.next.length ∧ G = lgD d a (f + j) (u.drop j) (x,y)) (fun e H=>u.length - natOf (e 32)) ?_ ?_
    · exact ⟨0,0,-1,-1,by omega,rfl,gs,gs,gs,gs,gs,gs,gs,gs,by omega,by omega,hG⟩
    clear hG
    rintro e H ⟨j,a,x,y,hj,h0,e2,e3,e8,e9,e10,e30,e31,e32,ha0,ha1,ha⟩ R hR
    by_cases hb : j < u.length
    case neg=>
      rw [List.drop_eq_nil_of_le (by omega)] at ha
      have : G = (x,y):=ha
      subst this
      clear ha
      repeat' (first | apply wz1|apply wz2|apply wz3|apply wz4|apply wz5|apply wz6 | simp -dsimp (maxSteps:=999999) (disch:=omega) only[go_sem,simprocAttr, *,pairD] | ((first | refine wz8 (fun hh=>?_) (fun hh=>?_) | refine wz9 (fun hh=>?_) (fun hh=>?_) | refine wpB_cond (by simp -dsimp (maxSteps:=999999) (disch:=omega) only[go_sem,simprocAttr, *,pairD];exact rfl) (fun hh=>?_) (fun hh=>?_)) <;> (try replace hh:=vqs hh) <;> (try (exfalso;first | exact hh | omega))))
      rfl
    have hd : u.drop j = u[j] :: u.drop (j + 1):=List.drop_eq_getElem_cons hb
    rw [hd,lgD] at ha
    have hcell : (u.map (D.int .i64))[j]? = some (.int .i64 u[j]):=by simp [hb]
    generalize u[j] = c at ha hcell
    have hn:=next_in hr ht (c:=c) ha0 ha1
    replace ha : Hid (G = if nextD d a c < 0 then (x,y) else lgD d (nextD d a c) (f + j + 1) (u.drop (j + 1)) (if 0 ≤ ruleAt d (nextD d a c) then (f + j + 1,ruleAt d (nextD d a c)) else (x,y))):=ha
    repeat' (first | apply wz1|apply wz2|apply wz3|apply wz4|apply wz5|apply wz6 | simp -dsimp (maxSteps:=999999) (disch:=omega) only[go_sem,simprocAttr, *] | ((first | refine wz8 ?_ ?_|refine wz9 ?_ ?_|refine wz7 ?_ ?_)<;>intro hh <;> (try replace hh:=vqs hh) <;> (try (exfalso;first | exact hh | omega))))
    refine evB_plain bo78 rfl rfl (stripDii d a c) (dnext_ok d a c ht ha0 ha1 hs) ?_
    generalize nextD d a c = t at ha hn
    by_cases hc : t < 0
    · have : G = (x,y):=by rw [show G = _ from ha,if_pos hc]
      subst this
      clear ha
      repeat' (first | apply wz1|apply wz2|apply wz3|apply wz4|apply wz5|apply wz6 | simp -dsimp (maxSteps:=999999) (disch:=omega) only[go_sem,simprocAttr, *,pairD] | ((first | refine wz8 (fun hh=>?_) (fun hh=>?_) | refine wz9 (fun hh=>?_) (fun hh=>?_) | refine wpB_cond (by simp -dsimp (maxSteps:=999999) (disch:=omega) only[go_sem,simprocAttr, *,pairD];exact rfl) (fun hh=>?_) (fun hh=>?_)) <;> (try replace hh:=vqs hh) <;> (try (exfalso;first | exact hh | omega))))
      rfl
    have hcr:=rule_cell (d:=d) (a:=t) (by omega) (by omega)
    have hbd : -1 ≤ ruleAt d t:=by
      have hb2 : t.toNat < d.next.length:=by omega
      exact (row_of hr hb2).1
    generalize ruleAt d t = q at ha hcr hbd
    repeat' (first | apply wz1|apply wz2|apply wz3|apply wz4|apply wz5|apply wz6 | simp -dsimp (maxSteps:=999999) (disch:=omega) only[go_sem,simprocAttr, *] | ((first | refine wz8 ?_ ?_|refine wz9 ?_ ?_|refine wz7 ?_ ?_)<;>intro hh <;> (try replace hh:=vqs hh) <;> (try (exfalso;first | exact hh | omega))))
    · refine wpB_regionXL (prs:=[]) (by kernel_rfl) rfl (by kernel_rfl) ?_;simp -dsimp (maxSteps:=999999) (disch:=omega) only[go_sem,simprocAttr, *]
      repeat' (first | apply wz1|apply wz2|apply wz3|apply wz4|apply wz5|apply wz6 | simp -dsimp (maxSteps:=999999) (disch:=omega) only[go_sem,simprocAttr, *] | ((first | refine wz8 ?_ ?_|refine wz9 ?_ ?_|refine wz7 ?_ ?_)<;>intro hh <;> (try replace hh:=vqs hh) <;> (try (exfalso;first | exact hh | omega))))
      refine hR _ _ ⟨j + 1,t,f + j + 1,q,by omega,gs,gs,gs,gs,gs,gs,gs,gs,gs,by omega,by omega,?_⟩ ?_
      · rw [show G = _ from ha,if_neg hc,if_pos (by omega)]
        congr 1;omega
      · simp -dsimp (maxSteps:=999999) (disch:=omega) only[go_sem,simprocAttr, *,natOf_int]
    · refine hR _ _ ⟨j + 1,t,x,y,by omega,gs,gs,gs,gs,gs,gs,gs,gs,gs,by omega,by omega,?_⟩ ?_
      · rw [show G = _ from ha,if_neg hc,if_neg (by omega)]
        congr 1;omega
      · simp -dsimp (maxSteps:=999999) (disch:=omega) only[go_sem,simprocAttr, *,natOf_int]
end Go.Proofs.W
end
section
namespace Go.Proofs.W
open Go Vm Go.Proofs.Zs25
def goodD (d : Dfa) (a : Int) (w : List Int) : Bool:=decide (0 ≤ runD d a w) && decide (0 ≤ ruleAt d (runD d a w))
end Go.Proofs.W
end
section
namespace Go.Proofs.W
open Go Vm Go.Proofs.Zs25
def refA (d : Dfa) (a : Int) (u : List Int) : Nat → Option Nat
  | 0=>none
  | m + 1=>if goodD d a (u.take (m + 1)) then some (m + 1) else refA d a u m
theorem good_neg {d : Dfa} {a c : Int} {v : List Int} (h : nextD d a c < 0) : goodD d a (c :: v) = false:=by
  unfold goodD
  rw [runD,if_pos h];rfl
theorem good_pos {d : Dfa} {a c : Int} {v : List Int} (h : ¬ nextD d a c < 0) : goodD d a (c :: v) = goodD d (nextD d a c) v:=by
  unfold goodD
  rw [runD,if_neg h]
theorem refA_neg {d : Dfa} {a c : Int} {w : List Int} (h : nextD d a c < 0) : ∀ m,refA d a (c :: w) m = none
  | 0=>rfl
  | m + 1=>by
    rw [refA,List.take_succ_cons,good_neg h]
    exact refA_neg h m
theorem refA_pos {d : Dfa} {a c : Int} {w : List Int} (h : ¬ nextD d a c < 0) : ∀ m,refA d a (c :: w) (m + 1) = match refA d (nextD d a c) w m with
    | some k=>some (k + 1)
    | none=>if goodD d (nextD d a c) [] then some 1 else none
  | 0=>by
    show (if goodD d a [c] then some 1 else none) = _
    rw [good_pos h]
    rfl
  | m + 1=>by
    rw [refA,List.take_succ_cons,good_pos h,refA_pos h m]
    conv=>rhs;rw [refA]
    cases goodD d (nextD d a c) (w.take (m + 1)) <;> simp
theorem lg_ref (d : Dfa) : ∀ (u : List Int) (a p : Int) (er : Int × Int),0 ≤ a → lgD d a p u er = match refA d a u u.length with
    | none=>er
    | some m=>(p + m,ruleAt d (runD d a (u.take m)))
  | [],a,p,er,h=>rfl
  | c :: w,a,p,er,h=>by
    rw [lgD]
    by_cases ht : nextD d a c < 0
    · rw [if_pos ht,refA_neg ht]
    · rw [if_neg ht,lg_ref d w _ _ _ (by omega),List.length_cons,refA_pos ht]
      cases hk : refA d (nextD d a c) w w.length with
      | none=>
        simp only
        have hg : goodD d (nextD d a c) [] = (decide (0 ≤ nextD d a c) && decide (0 ≤ ruleAt d (nextD d a c))):=rfl
        rw [hg]
        by_cases hq : 0 ≤ ruleAt d (nextD d a c)
        · have : (decide (0 ≤ nextD d a c) && decide (0 ≤ ruleAt d (nextD d a c))) = true:=by simp;omega
          rw [if_pos hq,if_pos this]
          simp only [List.take_succ_cons,List.take_zero,runD,if_neg ht]
          rfl
        · have : ¬ (decide (0 ≤ nextD d a c) && decide (0 ≤ ruleAt d (nextD d a c))) = true:=by simp;omega
          rw [if_neg hq,if_neg this]
      | some k=>
        simp only [List.take_succ_cons,runD,if_neg ht]
        congr 1
        omega
theorem long0 {d : Dfa} (hr : rightD d = true) (w : List Int) : longD d w 0 = lgD d 0 0 w (-1,-1):=by
  unfold longD
  rw [if_pos ⟨hr,by omega,by omega⟩]
  simp
end Go.Proofs.W
end
section
namespace Go.Proofs.W
open Go Vm Go.Proofs.Zs25
def matchD (d : Dfa) (w : List Int) : Int:=if rightD d then (if runD d 0 w < 0 then -1 else ruleAt d (runD d 0 w)) else -1
end Go.Proofs.W
end
section
namespace Go.Proofs.W
open Go Vm Go.Proofs.Zs25
noncomputable def leadN (n : Nfa) (c : Int) (s : List Int) : List Int:=clos n (stp n c s)
noncomputable def rowTo (n : Nfa) (s : List Int) (ls : List (List Int)) : Nat → List Int × List (List Int)
  | 0=>([],ls)
  | c + 1=>((rowTo n s ls c).1 ++ [(addS (rowTo n s ls c).2 (leadN n c s)).1],(addS (rowTo n s ls c).2 (leadN n c s)).2)
noncomputable def runB (n : Nfa) : Nat → Nat → List (List Int) → List (List Int) → Option (List (List Int) × List (List Int))
  | 0,_,_,_=>none
  | k + 1,i,ls,nx=>if i < ls.length then
      (if 200 < (rowTo n (ls.getD i []) ls 16).2.length then none else runB n k (i + 1) (rowTo n (ls.getD i []) ls 16).2 (nx ++ [(rowTo n (ls.getD i []) ls 16).1]))
    else some (ls,nx)
theorem clos_nil (n : Nfa) : clos n [] = []:=by
  rcases h : clos n [] with _ | ⟨x,l⟩
  · rfl
  · have hx : x ∈ clos n []:=by rw [h];simp
    unfold clos at hx
    obtain ⟨i,h1,h2,h3⟩:=mem_listZ.1 hx
    rw [clo_iff] at h2
    exfalso
    clear h h3 hx h1
    induction h2 with
    | base h=>simp [inS] at h
    | step _ _ ih=>exact ih
theorem stp_nil (n : Nfa) (c : Int) : stp n c [] = []:=by
  rcases h : stp n c [] with _ | ⟨x,l⟩
  · rfl
  · have hx : x ∈ stp n c []:=by rw [h];simp
    unfold stp at hx
    obtain ⟨i,h1,h2,h3⟩:=mem_listZ.1 hx
    simp [stepTo] at h2
theorem stp_out (n : Nfa) {c : Int} (s : List Int) (hc : c < 0 ∨ 16 ≤ c) : stp n c s = []:=by
  rcases h : stp n c s with _ | ⟨x,l⟩
  · rfl
  · have hx : x ∈ stp n c s:=by rw [h];simp
    unfold stp at hx
    obtain ⟨i,h1,h2,h3⟩:=mem_listZ.1 hx
    simp only [stepTo,List.any_eq_true,Bool.and_eq_true] at h2
    obtain ⟨y,-,⟨-,h4⟩,-⟩:=h2
    simp only [hit,inB,Bool.and_eq_true,decide_eq_true_eq] at h4
    omega
theorem lead_nil (n : Nfa) (c : Int) : leadN n c [] = []:=by rw [leadN,stp_nil,clos_nil]
theorem lead_out (n : Nfa) {c : Int} (s : List Int) (hc : c < 0 ∨ 16 ≤ c) : leadN n c s = []:=by rw [leadN,stp_out n s hc,clos_nil]
def Code (ls : List (List Int)) (x : Int) (s : List Int) : Prop:=(s = [] ∧ x = -1) ∨ (s ≠ [] ∧ ∃ j : Nat,x = j ∧ ls[j]? = some s)
theorem code_add (ls : List (List Int)) (l : List Int) : Code (addS ls l).2 (addS ls l).1 l:=by
  by_cases h : l = []
  · exact .inl ⟨h,by simp [addS,h]⟩
  · exact .inr ⟨h,addS_at h⟩
theorem Code.old {ls : List (List Int)} {x : Int} {s : List Int} (h : Code ls x s) {ls' : List (List Int)} (k : ∀ (j : Nat) q,ls[j]? = some q → ls'[j]? = some q) : Code ls' x s:=by
  rcases h with h | ⟨h1,j,h2,h3⟩
  · exact .inl h
  · exact .inr ⟨h1,j,h2,k j s h3⟩
theorem Code.rng {ls : List (List Int)} {x : Int} {s : List Int} (h : Code ls x s) : -1 ≤ x ∧ x < ls.length:=by
  rcases h with ⟨_,rfl⟩ | ⟨_,j,rfl,h3⟩
  · omega
  · have:=(List.getElem?_eq_some_iff.1 h3).1
    omega
theorem addS_mem {ls : List (List Int)} {l q : List Int} (h : q ∈ (addS ls l).2) : q ∈ ls ∨ (q = l ∧ l ≠ []):=by
  unfold addS at h
  split at h
  · exact .inl h
  · rename_i hl
    split at h
    · exact .inl h
    · rcases List.mem_append.1 h with h | h
      · exact .inl h
      · exact .inr ⟨by simpa using h,hl⟩
theorem addS_len (ls : List (List Int)) (l : List Int) : ls.length ≤ (addS ls l).2.length ∧ (addS ls l).2.length ≤ ls.length + 1:=by
  unfold addS
  split
  · simp
  · split <;> simp
def GoodS (n : Nfa) (q : List Int) : Prop:=q ≠ [] ∧ ∃ l,q = clos n l
theorem rowTo_old (n : Nfa) (s : List Int) (ls : List (List Int)) : ∀ (c j : Nat) (q : List Int),ls[j]? = some q → (rowTo n s ls c).2[j]? = some q
  | 0,j,q,h=>h
  | c + 1,j,q,h=>addS_old (rowTo_old n s ls c j q h)
theorem rowTo_len (n : Nfa) (s : List Int) (ls : List (List Int)) : ∀ c,(rowTo n s ls c).1.length = c ∧ ls.length ≤ (rowTo n s ls c).2.length ∧ (rowTo n s ls c).2.length ≤ ls.length + c
  | 0=>⟨rfl,Nat.le_refl _,Nat.le_refl _⟩
  | c + 1=>by
    have ih:=rowTo_len n s ls c
    have:=addS_len (rowTo n s ls c).2 (leadN n c s)
    refine ⟨by simp [rowTo,ih.1],?_,?_⟩
    · simp only [rowTo];omega
    · simp only [rowTo];omega
theorem rowTo_good {n : Nfa} {s : List Int} {ls : List (List Int)} (h : ∀ q ∈ ls,GoodS n q) : ∀ c,∀ q ∈ (rowTo n s ls c).2,GoodS n q
  | 0,q,hq=>h q hq
  | c + 1,q,hq=>by
    rcases addS_mem hq with h1 | ⟨rfl,h2⟩
    · exact rowTo_good h c q h1
    · exact ⟨h2,_,rfl⟩
theorem rowTo_code (n : Nfa) (s : List Int) (ls : List (List Int)) : ∀ (c k : Nat),k < c → Code (rowTo n s ls c).2 ((rowTo n s ls c).1.getD k 0) (leadN n k s)
  | 0,k,h=>by omega
  | c + 1,k,h=>by
    have hl:=(rowTo_len n s ls c).1
    by_cases e : k = c
    · subst e
      have : (rowTo n s ls (k + 1)).1.getD k 0 = (addS (rowTo n s ls k).2 (leadN n k s)).1:=by
        simp only [rowTo,List.getD_eq_getElem?_getD]
        rw [List.getElem?_append_right (by omega),hl];simp
      rw [this]
      exact code_add _ _
    · have : (rowTo n s ls (c + 1)).1.getD k 0 = (rowTo n s ls c).1.getD k 0:=by
        simp only [rowTo,List.getD_eq_getElem?_getD]
        rw [List.getElem?_append_left (by omega)]
      rw [this]
      exact (rowTo_code n s ls c k (by omega)).old fun j q hq=>addS_old hq
structure DoneI (n : Nfa) (i : Nat) (ls nx : List (List Int)) : Prop where
  len : nx.length = i
  le : i ≤ ls.length
  good : ∀ q ∈ ls,GoodS n q
  z : ls[0]? = some (clos n [0])
  row : ∀ j,j < i → (nx.getD j []).length = 16 ∧ ∀ k : Nat,k < 16 → Code ls ((nx.getD j []).getD k 0) (leadN n k (ls.getD j []))
theorem DoneI.step {n : Nfa} {i : Nat} {ls nx : List (List Int)} (h : DoneI n i ls nx) (hi : i < ls.length) : DoneI n (i + 1) (rowTo n (ls.getD i []) ls 16).2 (nx ++ [(rowTo n (ls.getD i []) ls 16).1]):=by
  have hold:=rowTo_old n (ls.getD i []) ls 16
  have hlen:=rowTo_len n (ls.getD i []) ls 16
  have same : ∀ j,j < ls.length → (rowTo n (ls.getD i []) ls 16).2.getD j [] = ls.getD j []:=fun j hj=>by
    have:=hold j ls[j] (List.getElem?_eq_getElem hj)
    rw [List.getD_eq_getElem?_getD,this,List.getD_eq_getElem?_getD,List.getElem?_eq_getElem hj]
  refine ⟨by simp [h.len],by omega,rowTo_good h.good 16,hold _ _ h.z,fun j hj=>?_⟩
  by_cases e : j = i
  · subst e
    have e1 : (nx ++ [(rowTo n (ls.getD j []) ls 16).1]).getD j [] = (rowTo n (ls.getD j []) ls 16).1:=by
      simp only [List.getD_eq_getElem?_getD]
      rw [List.getElem?_append_right (by rw [h.len];omega),h.len];simp
    rw [e1,same j hi]
    exact ⟨hlen.1,fun k hk=>rowTo_code _ _ _ 16 k hk⟩
  · have e1 : (nx ++ [(rowTo n (ls.getD i []) ls 16).1]).getD j [] = nx.getD j []:=by
      simp only [List.getD_eq_getElem?_getD]
      rw [List.getElem?_append_left (by rw [h.len];omega)]
    rw [e1,same j (by omega)]
    obtain ⟨g1,g2⟩:=h.row j (by omega)
    exact ⟨g1,fun k hk=>(g2 k hk).old hold⟩
theorem runB_done {n : Nfa} : ∀ (k i : Nat) (ls nx ls' nx' : List (List Int)),DoneI n i ls nx → ls.length ≤ 200 → runB n k i ls nx = some (ls',nx') → DoneI n ls'.length ls' nx' ∧ ls'.length ≤ 200
  | 0,i,ls,nx,ls',nx',h,hl,hr=>by simp [runB] at hr
  | k + 1,i,ls,nx,ls',nx',h,hl,hr=>by
    rw [runB] at hr
    split at hr
    · rename_i hi
      split at hr
      · cases hr
      · exact runB_done k (i + 1) _ _ ls' nx' (h.step hi) (by omega) hr
    · cases hr
      have : i = ls.length:=by have:=h.le;omega
      subst this
      exact ⟨h,hl⟩
theorem done_zero {n : Nfa} (h : clos n [0] ≠ []) : DoneI n 0 [clos n [0]] []:=
  ⟨rfl,by simp,fun q hq=>by rw [List.mem_singleton.1 hq];exact ⟨h,_,rfl⟩,rfl,fun j hj=>by omega⟩
theorem clos_zero {n : Nfa} (hk : 1 ≤ n.set.length) : clos n [0] ≠ []:=by
  intro h
  have : (0 : Int) ∈ clos n [0]:=by
    unfold clos
    exact mem_listZ.2 ⟨0,by omega,clo_iff.2 (.base ⟨by omega,by simp⟩),rfl⟩
  rw [h] at this
  cases this
def mkDfa (n : Nfa) (ls nx : List (List Int)) : Dfa:=⟨nx,ls.map (endsZ n)⟩
theorem endsZ_rng {n : Nfa} (hn : rightN n = true) {l : List Int} (hl : ∀ s ∈ l,0 ≤ s ∧ s < n.set.length) : -1 ≤ endsZ n l ∧ endsZ n l < 16:=by
  obtain ⟨hk,hk2,hf,ht,hr,hrow⟩:=right_row hn
  have hall : ∀ r ∈ l.map (fun s=>n.rule.getD s.toNat 0),r < 16:=fun r h=>by
    obtain ⟨s,hs,rfl⟩:=List.mem_map.1 h
    have:=hl s hs
    have:=hrow s.toNat (by omega)
    simp only [rowOk,Bool.and_eq_true,decide_eq_true_eq] at this
    omega
  obtain ⟨h1,h2,h3,h4⟩:=bestFrom_spec (l.map fun s=>n.rule.getD s.toNat 0) (-1) (by omega)
  refine ⟨h1,?_⟩
  unfold endsZ
  rcases h4 with h4 | h4
  · omega
  · exact hall _ h4
theorem mk_right {n : Nfa} (hn : rightN n = true) {ls nx : List (List Int)} (h : DoneI n ls.length ls nx) (hl : ls.length ≤ 200) : rightD (mkDfa n ls nx) = true:=by
  have h0:=(List.getElem?_eq_some_iff.1 h.z).1
  simp only [rightD,mkDfa,Bool.and_eq_true,decide_eq_true_eq,h.len,List.length_map,allN_iff]
  refine ⟨⟨by omega,hl,trivial⟩,fun i _ hi=>?_⟩
  have hi' : i < ls.length:=by omega
  have e : (ls.map (endsZ n)).getD i 0 = endsZ n ls[i]:=by simp [List.getD_eq_getElem?_getD,hi']
  obtain ⟨g1,l,g2⟩:=h.good ls[i] (List.getElem_mem hi')
  have hr:=endsZ_rng hn (l:=ls[i]) (fun s hs=>clos_in (l:=l) (by rw [← g2];exact hs))
  simp only [rowOkD,e,Bool.and_eq_true,decide_eq_true_eq,List.all_eq_true,toOk]
  refine ⟨hr,fun x hx=>?_⟩
  obtain ⟨k1,k2⟩:=h.row i hi'
  obtain ⟨k,hk,rfl⟩:=List.mem_iff_getElem.1 hx
  have:=(k2 k (by omega)).rng
  have e2 : (nx.getD i []).getD k 0 = (nx.getD i [])[k]:=by rw [List.getD_eq_getElem?_getD,List.getElem?_eq_getElem hk];rfl
  rw [e2,← h.len] at this
  exact this
theorem mk_ty {n : Nfa} {ls nx : List (List Int)} (h : DoneI n ls.length ls nx) : tyM (mkDfa n ls nx):=fun r hr=>by
  obtain ⟨j,hj,rfl⟩:=List.mem_iff_getElem.1 hr
  have hj' : j < nx.length:=hj
  have:=(h.row j (by rw [← h.len];exact hj)).1
  rw [List.getD_eq_getElem?_getD,List.getElem?_eq_getElem hj'] at this
  exact this
theorem mk_next {n : Nfa} {ls nx : List (List Int)} (h : DoneI n ls.length ls nx) {j : Nat} {q : List Int} (hj : ls[j]? = some q) (c : Int) : Code ls (nextD (mkDfa n ls nx) j c) (leadN n c q):=by
  have hjl:=(List.getElem?_eq_some_iff.1 hj).1
  unfold nextD
  split
  · rename_i hc
    rw [lead_out n q hc];exact .inl ⟨rfl,rfl⟩
  · rename_i hc
    have:=(h.row j hjl).2 c.toNat (by omega)
    rw [show ls.getD j [] = q by simp [List.getD_eq_getElem?_getD,hj],show ((c.toNat : Nat) : Int) = c by omega] at this
    simpa [mkDfa] using this
theorem mk_run {n : Nfa} {ls nx : List (List Int)} (h : DoneI n ls.length ls nx) : ∀ (w : List Int) (j : Nat) (q : List Int),ls[j]? = some q → q ≠ [] → Code ls (runD (mkDfa n ls nx) j w) (w.foldl (fun a c=>leadN n c a) q)
  | [],j,q,hj,hq=>.inr ⟨hq,j,rfl,hj⟩
  | c :: w,j,q,hj,hq=>by
    rw [runD,List.foldl_cons]
    rcases mk_next h hj c with ⟨h1,h2⟩ | ⟨h1,m,h2,h3⟩
    · rw [h2,if_pos (by omega),h1]
      have : ∀ w : List Int,w.foldl (fun a c=>leadN n c a) [] = []:=by
        intro w
        induction w with
        | nil=>rfl
        | cons c w ih=>rw [List.foldl_cons,lead_nil,ih]
      exact .inl ⟨this w,rfl⟩
    · rw [h2,if_neg (by omega)]
      exact mk_run h w m _ h3 h1
theorem mk_match {n : Nfa} (hn : rightN n = true) {ls nx : List (List Int)} (h : DoneI n ls.length ls nx) (hl : ls.length ≤ 200) (w : List Int) : matchD (mkDfa n ls nx) w = matchN n w:=by
  have hq:=(h.good _ (List.mem_of_getElem? h.z)).1
  have hrun:=mk_run h w 0 _ h.z hq
  have e : w.foldl (fun a c=>leadN n c a) (clos n [0]) = atN n w:=rfl
  rw [e] at hrun
  unfold matchD matchN
  rw [if_pos (mk_right hn h hl),if_pos hn]
  rcases hrun with ⟨h1,h2⟩ | ⟨h1,m,h2,h3⟩
  · rw [show ((0 : Nat) : Int) = 0 from rfl] at h2
    rw [h2,if_pos (by omega),h1];rfl
  · rw [show ((0 : Nat) : Int) = 0 from rfl] at h2
    rw [h2,if_neg (by omega)]
    simp [ruleAt,mkDfa,h3]
def lastP (f : Nat → Int) : Nat → Int × Int
  | 0=>(-1,-1)
  | m + 1=>if 0 ≤ f (m + 1) then (((m + 1 : Nat) : Int),f (m + 1)) else lastP f m
theorem long_last {d : Dfa} (hr : rightD d = true) (ht : tyM d) (w : List Int) : longD d w 0 = lastP (fun m=>matchD d (w.take m)) w.length:=by
  have hl:=right_len hr
  rw [long0 hr,lg_ref _ _ _ _ _ (by omega)]
  have key : ∀ m,(match refA d 0 w m with
      | none=>(-1,-1)
      | some m=>((0 : Int) + (m : Int),ruleAt d (runD d 0 (w.take m)))) = lastP (fun m=>matchD d (w.take m)) m:=by
    intro m
    induction m with
    | zero=>rfl
    | succ m ih=>
      rw [refA,lastP]
      have hin:=runD_in hr ht (w:=w.take (m + 1)) (a:=0) (by omega) (by omega)
      have hg : goodD d 0 (w.take (m + 1)) = decide (0 ≤ matchD d (w.take (m + 1))):=by
        unfold goodD matchD
        rw [if_pos hr]
        by_cases hc : runD d 0 (w.take (m + 1)) < 0
        · rw [if_pos hc];simp;omega
        · rw [if_neg hc];simp;omega
      rw [hg]
      by_cases hc : 0 ≤ matchD d (w.take (m + 1))
      · rw [if_pos hc]
        simp only [hc,decide_true,if_true]
        refine Prod.ext (by simp) ?_
        unfold matchD at hc ⊢
        rw [if_pos hr] at hc ⊢
        split at hc
        · omega
        · rename_i h1;rw [if_neg h1]
      · rw [if_neg hc]
        simp only [hc,decide_false,Bool.false_eq_true,if_false]
        exact ih
  exact key w.length
end Go.Proofs.W
end
section
namespace Go.Proofs.W
open Go Vm Go.Proofs.Zs25
theorem vecAt_appendL {t e : TypeId} {n w m : Nat} {z d y : D} {H H1 : Heap} {xs ys : List D} (he : elemT Tryz.prog t = some e) (hn : sizeT Tryz.prog e = some n) (hw : bytesT Tryz.prog e = some w) (hz : zeroT Tryz.prog e = some z) (hzn : z.cells.length = n) (hw0 : w ≠ 0)
    (h : VecAt m d H xs) (hl : H.length ≤ H1.length) (hk : ∀ r,r < H.length → hget H1 r = hget H r) (hadd : addedD H1 y = some (ys,H1)) (hy : ys ≠ []) (hys : headSize n ys = true) (hx : headSize n xs = true) (hm : (xs.length + ys.length) * w ≤ 140737488355328) :
    ∃ d' H',appendD Tryz.prog t H1 d y = some (d',H') ∧ VecAt m d' H' (xs ++ ys) ∧ Same m H H':=by
  have hye : ys.isEmpty = false:=by simpa using hy
  obtain ⟨h0,⟨rfl,rfl⟩ | ⟨h1,r,h2,h4,rfl,h3⟩⟩:=h
  · refine ⟨.vec H1.length 0 (0 + ys.length),H1 ++ [Ob.arr ([] ++ ys)],?_,⟨by simp;omega,.inr ⟨by simpa using hy,H1.length,by omega,by simp,by simp,?_⟩⟩,⟨by simp;omega,fun k hk'=>?_⟩⟩
    · simp only [appendD,he,hn,hw,hz,Option.bind_some,hadd,hzn]
      have hm' : ys.length * w ≤ 140737488355328:=by simpa using hm
      have h0s : headSize n ([] : List D) = true:=rfl
      simp [hw0,hys,hye,h0s,mostBytes,hm']
    · rw [hget_app0];rfl
    · rw [hget_app_lt (by omega),hk k (by omega)]
  · have hg : hget H1 r = .arr xs:=by rw [hk r h4,h3]
    have hne : xs.isEmpty = false:=by simpa using h1
    refine ⟨.vec H1.length 0 (xs.length + ys.length),H1.set r Ob.dead ++ [Ob.arr (xs ++ ys)],?_,⟨by simp;omega,.inr ⟨by simp [h1],H1.length,by omega,by simp,by simp,?_⟩⟩,⟨by simp;omega,fun k hk'=>?_⟩⟩
    · simp only [appendD,he,hn,hw,hz,Option.bind_some,hadd,hzn]
      simp [hw0,hys,hye,hg,hx,hne,hm,mostBytes]
    · have:=hget_app0 (H:=H1.set r Ob.dead) (L:=[Ob.arr (xs ++ ys)])
      rw [List.length_set] at this
      rw [this];rfl
    · rw [hget_app_lt (by simp;omega),hget_set_ne (by omega),hk k (by omega)]
theorem vecAt_elems {m : Nat} {d : D} {H : Heap} {xs : List D} (h : VecAt m d H xs) : Vm.elems H d = some xs:=by
  obtain ⟨h0,⟨rfl,rfl⟩ | ⟨h1,r,h2,h4,rfl,h3⟩⟩:=h
  · rfl
  · simp [Vm.elems,h3]
end Go.Proofs.W
end
section
namespace Go.Proofs.W
open Go Vm Go.Proofs.Zs25
theorem add_two {H : Heap} {a b : D} (ha : strip a = some a) (hb : strip b = some b) : addedD (H ++ [.arr [a,b]]) (.vec H.length 0 2) = some ([a,b],H ++ [.arr [a,b]]):=by
  have : pures (H ++ [.arr [a,b]]) [a,b] = some ([a,b],H ++ [.arr [a,b]]):=pures_strip (by simp [stripL,ha,hb])
  simp [addedD,elems,hget_app0,hget_cons0,this,puresA,nilE_strip ha]
theorem bytesBack_of (s : List UInt8) : bytesBack (bytesOf s) = some s:=by
  induction s with
  | nil=>rfl
  | cons b s ih=>
    simp only [bytesOf,List.map_cons,bytesBack] at ih ⊢
    rw [ih]
    simp
theorem headBytes (s : List UInt8) : headSize 1 (bytesOf s) = true:=by cases s <;> rfl
theorem keyS_app (s : Int) : ∀ (l : List Int),keyS (l ++ [s]) = keyS l ++ [UInt8.ofNat (s.toNat / 256),UInt8.ofNat (s.toNat % 256)]
  | []=>rfl
  | x :: l=>by simp only [List.cons_append,keyS,keyS_app s l]
theorem keyS_len : ∀ l : List Int,(keyS l).length = 2 * l.length
  | []=>rfl
  | x :: l=>by simp only [keyS,List.length_cons,keyS_len l];omega
theorem bytes_app (a b : List UInt8) : bytesOf (a ++ b) = bytesOf a ++ bytesOf b:=by simp [bytesOf]
theorem bytes_len (a : List UInt8) : (bytesOf a).length = a.length:=by simp [bytesOf]
theorem ruleL_ends (n : Nfa) : ∀ (l : List Int) (o : Int),(∀ s ∈ l,0 ≤ s ∧ s < n.rule.length) → ruleL (n.rule.map (.int .i64)) (l.map (.int .i64)) o = some (bestFrom o (l.map fun s=>n.rule.getD s.toNat 0))
  | [],o,h=>rfl
  | s :: l,o,h=>by
    have hs:=h s (by simp)
    obtain ⟨t,ht1,ht2⟩:=ex_at (l:=n.rule) (i:=s.toNat) 0 (by omega)
    have ih:=ruleL_ends n l
    simp only [List.map_cons,ruleL,hs.1,if_true,List.getElem?_map,ht1,Option.map_some,bestFrom_cons,ht2]
    exact ih _ fun x hx=>h x (by simp [hx])
abbrev dkL (M rm : Nat) (ds : List D) : List D:=.ptr M 0 0 :: .map rm :: ds
structure DkAt (M rm : Nat) (n : Nfa) (nx ls : List (List Int)) (ds : List D) (H : Heap) : Prop where
  ms : Ms M ds [nx.map rowD,(ls.map (endsZ n)).map (.int .i64),ls.map isD] H
  hM : hget H M = .arr [.agg [.sl false (n.free.map isD),.sl false (n.set.map (.int .u16)),.sl false (n.to.map (.int .i64)),.sl false (n.rule.map (.int .i64)),ds.getD 0 ud,ds.getD 1 ud,.map rm,ds.getD 2 ud]]
  hm : hget H rm = .map (ents 0 ls)
  rM : rm ≠ M
  ro : ∀ i,rm ∉ objsD (ds.getD i ud)
  rl : rm < H.length
theorem DkAt.keep {M rm : Nat} {n : Nfa} {nx ls : List (List Int)} {ds : List D} {H H' : Heap} (h : DkAt M rm n nx ls ds H) (hl : H.length ≤ H'.length) (hk : ∀ r,own (dkL M rm ds) r → hget H' r = hget H r) : DkAt M rm n nx ls ds H':=
  ⟨⟨fun i hi=>vec_keep (h.ms.v i hi) hl fun r hr=>hk r ⟨i + 2,by simpa using hr⟩,h.ms.lenX,h.ms.ap,by have:=h.ms.m;omega⟩,by rw [hk M ⟨0,by simp [objsD]⟩];exact h.hM,by rw [hk rm ⟨1,by simp [objsD]⟩];exact h.hm,h.rM,h.ro,by have:=h.rl;omega⟩
theorem DkAt.lt {M rm : Nat} {n : Nfa} {nx ls : List (List Int)} {ds : List D} {H : Heap} (h : DkAt M rm n nx ls ds H) {r : Nat} (hr : own (dkL M rm ds) r) : r < H.length:=by
  obtain ⟨k,hk⟩:=hr
  match k,hk with
  | 0, hk => have : r = M := by simpa [objsD] using hk
             subst this;exact h.ms.m
  | 1, hk => have : r = rm := by simpa [objsD] using hk
             subst this;exact h.rl
  | k + 2,hk=>exact h.ms.lt (i:=k) (by simpa using hk)
theorem ds_three {ds : List D} (h : 3 = ds.length) : ∃ a b c,ds = [a,b,c]:=by
  match ds,h with
  | [a,b,c],_=>exact ⟨a,b,c,rfl⟩
theorem lk_some {H : Heap} {rm : Nat} {es : List (D × D)} {s : List UInt8} {i : Nat} {v : D} (hm : hget H rm = .map es) (hf : findE (.str s) es 0 = some (some (i,v))) : lookupD Tryz.prog 160 H (.map rm) (.str s) true = some (.tup [v,.bool true]):=by
  have hu : Tryz.prog.underlying 160 = some (.map 9 3):=un160
  have hk : keyOk Tryz.prog 9 (.str s) = true:=by simp only [keyOk,un9]
  simp only [lookupD,hu,hk,Bool.true_eq_false,if_false,hm,hf,Option.bind_some,Option.map_some,if_true]
theorem lk_none {H : Heap} {rm : Nat} {es : List (D × D)} {s : List UInt8} (hm : hget H rm = .map es) (hf : findE (.str s) es 0 = some none) : lookupD Tryz.prog 160 H (.map rm) (.str s) true = some (.tup [.int .i64 0,.bool false]):=by
  have hu : Tryz.prog.underlying 160 = some (.map 9 3):=un160
  have hk : keyOk Tryz.prog 9 (.str s) = true:=by simp only [keyOk,un9]
  have hz : zeroT Tryz.prog 3 = some (.int .i64 0):=zr3
  simp only [lookupD,hu,hk,Bool.true_eq_false,if_false,hm,hf,Option.bind_some,hz,Option.map_some,if_true]
theorem up_none {H : Heap} {rm : Nat} {es : List (D × D)} {s : List UInt8} {v : D} (hm : hget H rm = .map es) (hf : findE (.str s) es 0 = some none) : updateD Tryz.prog 160 H (.map rm) (.str s) v = some (H.set rm (.map (es ++ [(.str s,v)]))):=by
  have hu : Tryz.prog.underlying 160 = some (.map 9 3):=un160
  have hk : keyOk Tryz.prog 9 (.str s) = true:=by simp only [keyOk,un9]
  simp only [updateD,hu,hk,Bool.true_eq_false,if_false,hm,hf,Option.map_some]
theorem headIs (ls : List (List Int)) : headSize 1 (ls.map isD) = true:=by cases ls <;> rfl
theorem headRows (ls : List (List Int)) (h : ∀ r ∈ ls,r.length = 16) : headSize 16 (ls.map rowD) = true:=by
  cases ls with
  | nil=>rfl
  | cons r l=>simp [headSize,rowD,D.cells,h r (by simp)]
theorem vec_len {d : D} {H : Heap} {xs : List D} (h : VecIs d H xs) {e : TypeId} (HH : Heap) : lenU (some (.slice e)) HH d = some xs.length:=by
  rcases h with ⟨rfl,rfl⟩ | ⟨_,r,rfl,_,_⟩ <;> rfl
end Go.Proofs.W
end
section
namespace Go.Proofs.W
open Go Vm Go.Proofs.Zs25
theorem sh8' {s : Int} (h0 : 0 ≤ s) (h1 : s < 65536) : IntKind.u8.wrap (s.fdiv 256) = ((UInt8.ofNat (s.toNat / 256)).toNat : Int):=by
  have e : s.fdiv 256 = s / 256:=Int.fdiv_eq_ediv_of_nonneg s (by decide)
  have e2 : (UInt8.ofNat (s.toNat / 256)).toNat = s.toNat / 256:=by rw [UInt8.toNat_ofNat'];omega
  rw [e,e2,IntKind.wrap_u8]
  omega
theorem sh8q {s : Int} (h0 : 0 ≤ s) (h1 : s < 65536) : IntKind.u8.wrap (s.fdiv (2 ^ min 8 64)) = ((UInt8.ofNat (s.toNat / 256)).toNat : Int):=sh8' h0 h1
theorem lo8 {s : Int} (h0 : 0 ≤ s) (h1 : s < 65536) : IntKind.u8.wrap s = ((UInt8.ofNat (s.toNat % 256)).toNat : Int):=by
  have e2 : (UInt8.ofNat (s.toNat % 256)).toNat = s.toNat % 256:=by rw [UInt8.toNat_ofNat'];omega
  rw [e2,IntKind.wrap_u8]
  omega
theorem dstate_ok (M rm : Nat) (n : Nfa) (nx ls : List (List Int)) (ds : List D) (H : Heap) (l : List Int) (h : DkAt M rm n nx ls ds H) (hn : rightN n = true) (hl : ∀ s ∈ l,0 ≤ s ∧ s < n.set.length) (hsm : ∀ q ∈ ls,small q) (hll : l.length ≤ 3300) (hls : ls.length ≤ 1000) :
    EvF Tryz.prog A 90 [.ptr M 0 0,isD l] H (fun d H'=>d = .int .i64 (addS ls l).1 ∧ ∃ ds',DkAt M rm n nx (addS ls l).2 ds' H' ∧ Mv6 (dkL M rm ds) H (dkL M rm ds') H') (fun _ _=>False):=by
  have hrr:=right_row hn
  have hsl : small l:=fun s hs=>by have:=hl s hs;omega
  have ew : isD l = .sl false (l.map (.int .i64)):=rfl
  refine evF_inB (n:=78) (rs:=[.tmp 4]) Tryz.func90 rfl rfl rfl rfl rfl rfl ?_
  by_cases hne : l = []
  · subst hne
    have e1 : (addS ls []).1 = -1:=by simp [addS]
    have e2 : (addS ls []).2 = ls:=by simp [addS]
    rw [e1,e2]
    clear e1 e2 hsl hl
    repeat' (first | apply wz1|apply wz2|apply wz3|apply wz4|apply wz5|apply wz6 | simp -dsimp (maxSteps:=999999) (disch:=omega) only[go_sem,simprocAttr, *] | ((first | refine wz8 ?_ ?_|refine wz9 ?_ ?_|refine wz7 ?_ ?_)<;>intro hh <;> (try replace hh:=vqs hh) <;> (try (exfalso;first | exact hh | omega))))
    exact ⟨ds,h,Mv6.refl⟩
  have hpos : 0 < l.length:=by cases l with | nil=>exact absurd rfl hne | cons _ _=>simp
  repeat' (first | apply wz1|apply wz2|apply wz3|apply wz4|apply wz5|apply wz6 | simp -dsimp (maxSteps:=999999) (disch:=omega) only[go_sem,simprocAttr, *] | ((first | refine wz8 ?_ ?_|refine wz9 ?_ ?_|refine wz7 ?_ ?_)<;>intro hh <;> (try replace hh:=vqs hh) <;> (try (exfalso;first | exact hh | omega))))
  refine wpB_loop (fun e H1=>∃ (j : Nat) (db : D),j ≤ l.length ∧ VecAt H.length db H1 (bytesOf (keyS (l.take j))) ∧ Same H.length H H1 ∧ e 0 = .ptr M 0 0 ∧ e 1 = isD l ∧ e 5 = db ∧ e 14 = isD l ∧ e 15 = .int .i64 l.length ∧ e 16 = .int .i64 j) (fun e H=>l.length - natOf (e 16)) ?_ ?_
  · exact ⟨0,_,by omega,VecAt.nil (Nat.le_refl _),Same.refl,gs,gs,gs,gs,gs,gs⟩
  rintro e H1 ⟨j,db,hj,hv,hs,e0,e1,e5,e14,e15,e16⟩ R hR
  by_cases hb : j < l.length
  · obtain ⟨b0,b1⟩:=hsl l[j] (List.getElem_mem hb)
    have hx : (l.map (D.int .i64))[j]? = some (.int .i64 l[j]):=by simp [hb]
    have htk : keyS (l.take (j + 1)) = keyS (l.take j) ++ [UInt8.ofNat (l[j].toNat / 256),UInt8.ofNat (l[j].toNat % 256)]:=by rw [take_succ' hb,keyS_app]
    have hkl : (bytesOf (keyS (l.take j))).length ≤ 6600:=by rw [bytes_len,keyS_len,List.length_take];omega
    have ha:=vecAt_appendL (t:=37) (H1:=H1 ++ [.arr [.int .u8 ((UInt8.ofNat (l[j].toNat / 256)).toNat : Int),.int .u8 ((UInt8.ofNat (l[j].toNat % 256)).toNat : Int)]]) el37 sz5 by5 zr5 rfl (by decide) hv (by simp) (fun r hr=>hget_app_lt hr) (add_two rfl rfl) (by simp) rfl (headBytes _) (by simp;omega)
    rw [show bytesOf (keyS (l.take j)) ++ [D.int .u8 ((UInt8.ofNat (l[j].toNat / 256)).toNat : Int),D.int .u8 ((UInt8.ofNat (l[j].toNat % 256)).toNat : Int)] = bytesOf (keyS (l.take (j + 1))) by rw [htk,bytes_app];rfl,← sh8q b0 b1,← lo8 b0 b1] at ha
    obtain ⟨d',H2,ha,hv2,hs2⟩:=ha
    have hs3:=hs.trans hs2
    clear hs2 hv htk hsl hl hsm h hrr
    generalize l[j] = x at *
    repeat' (first | apply wz1|apply wz2|apply wz3|apply wz4|apply wz5|apply wz6 | simp -dsimp (maxSteps:=999999) (disch:=omega) only[go_sem,simprocAttr, *] | ((first | refine wz8 ?_ ?_|refine wz9 ?_ ?_|refine wz7 ?_ ?_)<;>intro hh <;> (try replace hh:=vqs hh) <;> (try (exfalso;first | exact hh | omega))))
    refine hR _ _ ⟨j + 1,d',by omega,hv2,hs3,gs,gs,gs,gs,gs,gs⟩ ?_
    simp -dsimp (maxSteps:=999999) (disch:=omega) only[go_sem,simprocAttr, *,natOf_int]
  rw [List.take_of_length_le (by omega)] at hv
  have hel:=vecAt_elems hv
  have hbb:=bytesBack_of (keyS l)
  have hk : DkAt M rm n nx ls ds H1:=h.keep hs.1 fun r hr=>hs.2 r (h.lt hr)
  have hmv : Mv6 (dkL M rm ds) H (dkL M rm ds) H1:=⟨fun r hr _=>hs.2 r hr,hs.1,fun _ h=>.inl h⟩
  have hf:=find_ents hsl ls 0 0 hsm
  clear hv hs h
  cases hp : placeS l 0 ls with
  | some j=>
    rw [hp] at hf
    simp only [Option.map_some] at hf
    have hlk:=lk_some hk.hm hf
    have e1 : addS ls l = ((j : Int),ls):=by simp [addS,hne,hp]
    rw [e1]
    have hM:=hk.hM
    clear hf hp e1
    repeat' (first | apply wz1|apply wz2|apply wz3|apply wz4|apply wz5|apply wz6 | simp -dsimp (maxSteps:=999999) (disch:=omega) only[go_sem,simprocAttr, *] | ((first | refine wz8 ?_ ?_|refine wz9 ?_ ?_|refine wz7 ?_ ?_)<;>intro hh <;> (try replace hh:=vqs hh) <;> (try (exfalso;first | exact hh | omega))))
    exact ⟨ds,hk,hmv⟩
  | none=>
    rw [hp] at hf
    simp only [Option.map_none] at hf
    have hlk:=lk_none hk.hm hf
    have hup:=up_none (v:=.int .i64 ls.length) hk.hm hf
    have e1 : addS ls l = ((ls.length : Int),ls ++ [l]):=by simp [addS,hne,hp]
    have e2:=ents_app ls 0 l
    rw [Nat.zero_add] at e2
    rw [e1]
    rw [← e2] at hup
    obtain ⟨dN,dR,dS,rfl⟩:=ds_three hk.ms.lenX
    have hM:=hk.hM
    simp only [List.getD_cons_zero,List.getD_cons_succ] at hM
    have hlen:=fun HH=>vec_len (e:=38) (hk.ms.v 2 (by simp)) HH
    simp only [List.getD_cons_zero,List.getD_cons_succ,List.length_map] at hlen
    have g1 : Ms M [dN,dR,dS] [nx.map rowD,(ls.map (endsZ n)).map (.int .i64),ls.map isD] (H1.set rm (.map (ents 0 (ls ++ [l])))):=
      ⟨fun i hi=>vec_keep (hk.ms.v i hi) (by simp) fun r hr=>hget_set_ne (fun e=>hk.ro i (e ▸ hr)),hk.ms.lenX,hk.ms.ap,by simpa using hk.ms.m⟩
    have g2 : hget (H1.set rm (.map (ents 0 (ls ++ [l])))) M = _:=(hget_set_ne hk.rM).trans hM
    have g3 : hget (H1.set rm (.map (ents 0 (ls ++ [l])))) rm = .map (ents 0 (ls ++ [l])):=hget_set_eq hk.rl
    have g4 : (H1.set rm (.map (ents 0 (ls ++ [l])))).length = H1.length:=by simp
    have g5 : ∀ r,r ≠ rm → hget (H1.set rm (.map (ents 0 (ls ++ [l])))) r = hget H1 r:=fun r h=>hget_set_ne (Ne.symm h)
    generalize hG2 : H1.set rm (.map (ents 0 (ls ++ [l]))) = H2 at *
    obtain ⟨d3,H3,a3,m3,M3,l3,k3,f3,o1,o2,o3⟩:=g1.app (p:=2) (by simp) (H1:=H2 ++ [.arr [.sl false (l.map (.int .i64))]]) el153 sz38 by38 zr38 rfl (by decide) (by simp) (fun r hr=>hget_app_lt hr) (add_new (.inl (strip_is l))) rfl (headIs ls) (by simp;omega)
    rw [g2] at M3
    simp only [List.set_cons_zero,List.set_cons_succ,List.getD_cons_zero,List.getD_cons_succ] at m3 a3 k3
    have w3:=m3.m
    have c3 : hget (H3.set M (.arr [.agg [.sl false (n.free.map isD),.sl false (n.set.map (.int .u16)),.sl false (n.to.map (.int .i64)),.sl false (n.rule.map (.int .i64)),dN,dR,.map rm,d3]])) M = .arr [.agg [.sl false (n.free.map isD),.sl false (n.set.map (.int .u16)),.sl false (n.to.map (.int .i64)),.sl false (n.rule.map (.int .i64)),dN,dR,.map rm,d3]]:=hget_set_eq w3
    have e3 : (H3.set M (.arr [.agg [.sl false (n.free.map isD),.sl false (n.set.map (.int .u16)),.sl false (n.to.map (.int .i64)),.sl false (n.rule.map (.int .i64)),dN,dR,.map rm,d3]])).length = H3.length:=by simp
    have z3 : ∀ r,r ≠ M → hget (H3.set M (.arr [.agg [.sl false (n.free.map isD),.sl false (n.set.map (.int .u16)),.sl false (n.to.map (.int .i64)),.sl false (n.rule.map (.int .i64)),dN,dR,.map rm,d3]])) r = hget H3 r:=fun r h=>hget_set_ne (Ne.symm h)
    replace m3:=m3.setM (.arr [.agg [.sl false (n.free.map isD),.sl false (n.set.map (.int .u16)),.sl false (n.to.map (.int .i64)),.sl false (n.rule.map (.int .i64)),dN,dR,.map rm,d3]])
    generalize hG3 : H3.set M (.arr [.agg [.sl false (n.free.map isD),.sl false (n.set.map (.int .u16)),.sl false (n.to.map (.int .i64)),.sl false (n.rule.map (.int .i64)),dN,dR,.map rm,d3]]) = J3 at m3 c3 e3 z3
    have hru : ruleG [.ptr M 0 0,.sl false (l.map (.int .i64))] (([D.ptr M 0 0,.sl false (l.map (.int .i64))].flatMap objsD).map (hget J3)) = some (.int .i64 (endsZ n l)):=by
      have e:=ruleL_ends n l (-1) (fun s hs=>by have:=hl s hs;omega)
      have e0 : ([D.ptr M 0 0,.sl false (l.map (.int .i64))].flatMap objsD).map (hget J3) = [hget J3 M]:=rfl
      rw [e0,c3]
      simp only [ruleG]
      rw [if_pos (by simp;omega),e];rfl
    obtain ⟨d4,H4,a4,m4,M4,l4,k4,f4,p1,p2,p3⟩:=m3.app (p:=1) (by simp) (H1:=J3) (y:=.sl false [.int .i64 (endsZ n l)]) el38 sz3 by3 zr3 rfl (by decide) (Nat.le_refl _) (fun r hr=>rfl) (add_lit rfl) rfl (headInts _) (by simp;omega)
    rw [c3] at M4
    simp only [List.set_cons_zero,List.set_cons_succ,List.getD_cons_zero,List.getD_cons_succ] at m4 a4 k4
    have w4:=m4.m
    have hend : DkAt M rm n nx (ls ++ [l]) [dN,d4,d3] (H4.set M (.arr [.agg [.sl false (n.free.map isD),.sl false (n.set.map (.int .u16)),.sl false (n.to.map (.int .i64)),.sl false (n.rule.map (.int .i64)),dN,d4,.map rm,d3]])) ∧ Mv6 (dkL M rm [dN,dR,dS]) H (dkL M rm [dN,d4,d3]) (H4.set M (.arr [.agg [.sl false (n.free.map isD),.sl false (n.set.map (.int .u16)),.sl false (n.to.map (.int .i64)),.sl false (n.rule.map (.int .i64)),dN,d4,.map rm,d3]])):=by
      have hrl:=hk.rl
      simp only [List.length_append,List.length_cons,List.length_nil] at l3
      have ro : ∀ i,rm ∉ objsD ([dN,d4,d3].getD i ud):=fun i hi=>by
        match i,hi with
        | 0,hi=>exact hk.ro 0 hi
        | 1,hi=>have:=f4 rm (by simpa using hi);omega
        | 2,hi=>have:=f3 rm (by simpa using hi);omega
        | i + 3,hi=>simp [ud,objsD] at hi
      refine ⟨⟨by simpa using m4.setM _,by rw [hget_set_eq w4];rfl,?_,hk.rM,ro,by simp;omega⟩,hmv.trans ⟨fun r hr ho=>?_,by simp;omega,fun r ho=>?_⟩⟩
      · rw [hget_set_ne (Ne.symm hk.rM),k4 rm (by omega) (hk.ro 1),z3 rm hk.rM,k3 rm (by omega) (hk.ro 2),g3]
      · have h0 : r ≠ M:=fun e=>ho ⟨0,by simp [objsD,e]⟩
        have h1 : r ≠ rm:=fun e=>ho ⟨1,by simp [objsD,e]⟩
        have h2 : r ∉ objsD dR:=fun e=>ho ⟨3,e⟩
        have h3 : r ∉ objsD dS:=fun e=>ho ⟨4,e⟩
        rw [hget_set_ne (Ne.symm h0),k4 r (by omega) h2,z3 r h0,k3 r (by omega) h3,g5 r h1]
      · obtain ⟨k,hk'⟩:=ho
        match k,hk' with
        | 0,hk'=>exact .inl ⟨0,hk'⟩
        | 1,hk'=>exact .inl ⟨1,hk'⟩
        | 2,hk'=>exact .inl ⟨2,hk'⟩
        | 3,hk'=>have:=f4 r (by simpa using hk');exact .inr (by omega)
        | 4,hk'=>have:=f3 r (by simpa using hk');exact .inr (by omega)
        | k + 5,hk'=>simp [ud,objsD] at hk'
    clear m3 m4 k3 k4 f3 f4 e3 z3 l3 l4 w3 w4 g1 g3 g4 g5 e1 e2 hf hp hmv hk hl hsl hsm hrr
    repeat' (first | apply wz1|apply wz2|apply wz3|apply wz4|apply wz5|apply wz6 | simp -dsimp (maxSteps:=999999) (disch:=omega) only[go_sem,simprocAttr, *] | ((first | refine wz8 ?_ ?_|refine wz9 ?_ ?_|refine wz7 ?_ ?_)<;>intro hh <;> (try replace hh:=vqs hh) <;> (try (exfalso;first | exact hh | omega))))
    refine wpB_regionXL (prs:=[]) (by kernel_rfl) rfl (by kernel_rfl) ?_;simp -dsimp (maxSteps:=999999) (disch:=omega) only[go_sem,simprocAttr, *]
    refine ⟨fun h=>Bool.noConfusion (show false = true from h),evB_rd (g:=ruleG) bo117 rfl hru ?_⟩
    clear hru
    repeat' (first | apply wz1|apply wz2|apply wz3|apply wz4|apply wz5|apply wz6 | simp -dsimp (maxSteps:=999999) (disch:=omega) only[go_sem,simprocAttr, *] | ((first | refine wz8 ?_ ?_|refine wz9 ?_ ?_|refine wz7 ?_ ?_)<;>intro hh <;> (try replace hh:=vqs hh) <;> (try (exfalso;first | exact hh | omega))))
    refine ⟨rfl,?_⟩
    repeat' (first | apply wz1|apply wz2|apply wz3|apply wz4|apply wz5|apply wz6 | simp -dsimp (maxSteps:=999999) (disch:=omega) only[go_sem,simprocAttr, *] | ((first | refine wz8 ?_ ?_|refine wz9 ?_ ?_|refine wz7 ?_ ?_)<;>intro hh <;> (try replace hh:=vqs hh) <;> (try (exfalso;first | exact hh | omega))))
    exact ⟨_,hend⟩
end Go.Proofs.W
end
section
namespace Go.Proofs.W
open Go Vm Go.Proofs.Zs25
theorem strip_rxsD' (l : List Rx) : stripL [rxsD l] = some [rxsD l]:=strip1 (by simp [rxsD,strip,strip_rxs])
noncomputable def dbuild (l : List Rx) : Dfa × Int:=
  match buildN l with
  | none=>(⟨[],[]⟩,1)
  | some n=>match runB n 202 0 [clos n [0]] [] with
    | none=>(⟨[],[]⟩,7)
    | some (ls,nx)=>(mkDfa n ls nx,0)
def dbD (x : Dfa × Int) : D:=.tup [dfaD x.1,.int .i64 x.2]
theorem out_dk {dN dR : D} {H : Heap} {nx : List (List Int)} {rl : List Int} (hN : VecIs dN H (nx.map rowD)) (hR : VecIs dR H (rl.map (.int .i64))) (e : Int) : outPure H (.tup [.agg [dN,dR],.int .i64 e]) = some (dbD (⟨nx,rl⟩,e)):=by
  have vN:=vecIs_a hN
  have vR:=vecIs_a hR
  have hz : ∀ {d : D} {xs : List D},VecA d H xs → strip d = none ∨ (d = .sl true [] ∧ xs = []):=fun {d xs} h=>by
    rcases h with ⟨h1,h2⟩ | ⟨r,h1,_⟩
    · exact .inr ⟨h2,h1⟩
    · exact .inl (by rw [h1];rfl)
  by_cases hn : stripL [dN,dR] = none
  · obtain ⟨H1,p1,s1,l1⟩:=pur_plainA (k:=2) vN (strip_rows nx)
    obtain ⟨H2,p2,s2,l2⟩:=pur_plainA (k:=2) (vR.soft s1 l1) (strip_ints rl)
    have hnone2 : stripL [D.agg [dN,dR],.int .i64 e] = none:=by rw [stripL,strip,hn];rfl
    unfold outPure deepest
    rw [pur_tup hnone2]
    simp only [purL]
    rw [pur_agg' hn]
    simp only [purL,p1,p2,Option.bind_some,Option.map_some]
    rw [pur_strip (show strip (.int .i64 e) = some (.int .i64 e) from rfl)]
    rfl
  · rcases hz vN with h1 | ⟨rfl,h1⟩
    · exact absurd (by simp [stripL,h1]) hn
    · rcases hz vR with h2 | ⟨rfl,h2⟩
      · exact absurd (by simp [stripL,h2,strip]) hn
      · have e1 : nx = []:=by simpa using h1
        have e2 : rl = []:=by simpa using h2
        subst e1;subst e2
        rfl
theorem stepN_eq {n : Nfa} (hn : rightN n = true) (c : Int) (l : List Int) : stepN n c l = stp n c l:=by rw [stepN,if_pos hn]
theorem closeN_eq {n : Nfa} (hn : rightN n = true) (l : List Int) : closeN n l = clos n l:=by rw [closeN,if_pos hn]
def rowZ (r : List Int) (j : Nat) : List Int:=r ++ List.replicate (16 - j) 0
theorem rowZ_len {r : List Int} {j : Nat} (h : r.length = j) (hj : j ≤ 16) : (rowZ r j).length = 16:=by simp [rowZ,h];omega
theorem rowZ_set {r : List Int} {j : Nat} (h : r.length = j) (hj : j < 16) (x : Int) : (rowZ r j).take j ++ x :: (rowZ r j).drop (j + 1) = rowZ (r ++ [x]) (j + 1):=by
  subst h
  unfold rowZ
  rw [List.take_append_of_le_length (Nat.le_refl _),List.take_length,List.drop_append,List.drop_of_length_le (by omega)]
  simp only [List.nil_append,List.drop_replicate,List.append_assoc,List.cons_append]
  congr 3
  omega
theorem small_good {n : Nfa} (hn : rightN n = true) {q : List Int} (h : GoodS n q) : small q:=fun s hs=>by
  obtain ⟨_,l,rfl⟩:=h
  have:=clos_in hs
  have:=right_row hn
  omega
theorem zrN7 : zeroT Tryz.prog 156 = some (.agg [.sl true [],.sl true [],.sl true [],.sl true []]):=by kernel_rfl
theorem zrD7 : zeroT Tryz.prog 77 = some (.agg [.sl true [],.sl true []]):=by kernel_rfl
theorem zrR7 : zeroT Tryz.prog 113 = some (rowD (rowZ [] 0)):=by kernel_rfl
theorem zrM7 : zeroT Tryz.prog 162 = some (.agg [.sl true [],.sl true [],.sl true [],.sl true [],.sl true [],.sl true [],.nilm,.sl true []]):=by kernel_rfl
theorem not_own0 {k : Nat} (hk : k ≠ 2 ∧ k ≠ 3) : ¬ own (dkL 3 2 [.sl true [],.sl true [],.sl true []]) k:=by
  rintro ⟨i,hi⟩
  match i,hi with
  | 0, hi => have : k = 3 := by simpa [objsD] using hi
             omega
  | 1, hi => have : k = 2 := by simpa [objsD] using hi
             omega
  | 2,hi=>cases hi
  | 3,hi=>cases hi
  | 4,hi=>cases hi
  | i + 5,hi=>simp [ud,objsD] at hi
theorem dk_zero (n : Nfa) (L : Heap) (a b : Ob) : DkAt 3 2 n [] [] [.sl true [],.sl true [],.sl true []] (a :: b :: .map [] :: .arr [.agg [.sl false (n.free.map isD),.sl false (n.set.map (.int .u16)),.sl false (n.to.map (.int .i64)),.sl false (n.rule.map (.int .i64)),.sl true [],.sl true [],.map 2,.sl true []]] :: L):=by
  refine ⟨⟨fun i hi=>?_,rfl,fun i j hij r hi hj=>?_,by simp⟩,rfl,rfl,by omega,fun i hi=>?_,by simp⟩
  · match i,hi with
    | 0,_=>exact VecIs.nil
    | 1,_=>exact VecIs.nil
    | 2,_=>exact VecIs.nil
  · match i,j with
    | 0,0=>exact hij rfl
    | 0,1=>cases hj
    | 0,2=>cases hj
    | 0,3=>cases hj
    | 0,j + 4=>simp [ud,objsD] at hj
    | 1,_=>cases hi
    | 2,_=>cases hi
    | 3,_=>cases hi
    | i + 4,_=>simp [ud,objsD] at hi
  · match i,hi with
    | 0,hi=>cases hi
    | 1,hi=>cases hi
    | 2,hi=>cases hi
    | i + 3,hi=>simp [ud,objsD] at hi
theorem mkMap7 (H : Heap) : makeMapD Tryz.prog 160 none H = some (.map H.length,H ++ [.map []]):=by
  simp only [makeMapD,un160]
theorem bdD0 : buildD Tryz.prog 77 [] = some (.agg [.sl true [],.sl true []]):=by kernel_rfl
theorem bdM7 (n : Nfa) : buildD Tryz.prog 162 [(0,nfaD n),(2,D.map 2)] = some (.agg [.sl false (n.free.map isD),.sl false (n.set.map (.int .u16)),.sl false (n.to.map (.int .i64)),.sl false (n.rule.map (.int .i64)),.sl true [],.sl true [],.map 2,.sl true []]):=by kernel_rfl
set_option maxRecDepth 20000 in
theorem dbuild_ok (l : List Rx) (hl : l.length ≤ 16 → ∀ r ∈ l,okR r) (hll : l.length ≤ 100000) : PureF Tryz.prog A 70 [rxsD l] (dbD (dbuild l)):=by
  have hB:=build_okS l hl hll
  refine evF_inB (n:=80) (rs:=[.cell 2 77,.tmp 3]) Tryz.func70 rfl rfl rfl rfl rfl rfl ?_
  repeat' (first | apply wz1|apply wz2|apply wz3|apply wz4|apply wz5|apply wz6 | simp -dsimp (maxSteps:=999999) (disch:=omega) only[go_sem,simprocAttr, *,zrN7,zrD7] | ((first | refine wz8 (fun hh=>?_) (fun hh=>?_) | refine wz9 (fun hh=>?_) (fun hh=>?_) | refine wpB_cond (by simp -dsimp (maxSteps:=999999) (disch:=omega) only[go_sem,simprocAttr, *,zrN7,zrD7];exact rfl) (fun hh=>?_) (fun hh=>?_)) <;> (try replace hh:=vqs hh) <;> (try (exfalso;first | exact hh | omega))))
  refine evB_plain bo89 rfl rfl (strip_rxsD' l) hB ?_
  unfold dbuild
  cases hb : buildN l with
  | none=>
    have a1:=nfa_noTup emptyN
    have a2 : (nfaD emptyN).cells = [.sl false (emptyN.free.map isD),.sl false (emptyN.set.map (.int .u16)),isD emptyN.to,isD emptyN.rule]:=rfl
    have a3:=nfa_aggQ emptyN
    repeat' (first | apply wz1|apply wz2|apply wz3|apply wz4|apply wz5|apply wz6 | simp -dsimp (maxSteps:=999999) (disch:=omega) only[go_sem,simprocAttr, *,builtD,zrN7,zrD7,bdD0] | ((first | refine wz8 (fun hh=>?_) (fun hh=>?_) | refine wz9 (fun hh=>?_) (fun hh=>?_) | refine wpB_cond (by simp -dsimp (maxSteps:=999999) (disch:=omega) only[go_sem,simprocAttr, *,builtD,zrN7,zrD7,bdD0];exact rfl) (fun hh=>?_) (fun hh=>?_)) <;> (try replace hh:=vqs hh) <;> (try (exfalso;first | exact hh | omega))))
    exact outPure_strip rfl
  | some n=>
    obtain ⟨-,g2,g3,g4⟩:=build_right hb
    have a1:=nfa_noTup n
    have a2 : (nfaD n).cells = [.sl false (n.free.map isD),.sl false (n.set.map (.int .u16)),.sl false (n.to.map (.int .i64)),.sl false (n.rule.map (.int .i64))]:=rfl
    have a3:=nfa_aggQ n
    have hC0:=close_ok n [0] g2 (by simp)
    rw [closeN_eq g3] at hC0
    have hrr:=right_row g3
    clear hB hl hb
    simp only
    generalize hG : runB n 202 0 [clos n [0]] [] = G
    replace hG : Hid (runB n 202 0 [clos n [0]] [] = G):=hG
    repeat' (first | apply wz1|apply wz2|apply wz3|apply wz4|apply wz5|apply wz6 | simp -dsimp (maxSteps:=999999) (disch:=omega) only[go_sem,simprocAttr, *,builtD,zrN7,zrD7,zrM7,mkMap7,bdM7] | ((first | refine wz8 (fun hh=>?_) (fun hh=>?_) | refine wz9 (fun hh=>?_) (fun hh=>?_) | refine wpB_cond (by simp -dsimp (maxSteps:=999999) (disch:=omega) only[go_sem,simprocAttr, *,builtD,zrN7,zrD7,zrM7,mkMap7,bdM7];exact rfl) (fun hh=>?_) (fun hh=>?_)) <;> (try replace hh:=vqs hh) <;> (try (exfalso;first | exact hh | omega))))
    refine evB_pureK bo91 rfl rfl (pures_one (H:=[Ob.arr [D.agg [D.sl true [],D.sl true []]],Ob.arr [nfaD n],Ob.map [],Ob.arr [.agg [.sl false (n.free.map isD),.sl false (n.set.map (.int .u16)),.sl false (n.to.map (.int .i64)),.sl false (n.rule.map (.int .i64)),.sl true [],.sl true [],.map 2,.sl true []]]]) (strip_nfa n) rfl rfl) hC0 ?_
    intro H1 hH1
    obtain ⟨ob,rfl⟩ : ∃ ob,H1 = [Ob.arr [D.agg [D.sl true [],D.sl true []]],Ob.arr [nfaD n],Ob.map [],Ob.arr [.agg [.sl false (n.free.map isD),.sl false (n.set.map (.int .u16)),.sl false (n.to.map (.int .i64)),.sl false (n.rule.map (.int .i64)),.sl true [],.sl true [],.map 2,.sl true []]],ob]:=by
      rcases hH1 with rfl | rfl <;> exact ⟨_,rfl⟩
    clear hH1 hC0
    have hz:=clos_zero (n:=n) (by omega)
    have hS:=dstate_ok 3 2 n [] [] _ _ (clos n [0]) (dk_zero n [ob] (Ob.arr [D.agg [D.sl true [],D.sl true []]]) (Ob.arr [nfaD n])) g3 (fun s hs=>clos_in hs) (by simp) (by have:=clos_len n [0];omega) (by simp)
    have hfst : addS [] (clos n [0]) = (0,[clos n [0]]):=by simp [addS,hz,placeS]
    rw [hfst] at hS
    repeat' (first | apply wz1|apply wz2|apply wz3|apply wz4|apply wz5|apply wz6 | simp -dsimp (maxSteps:=999999) (disch:=omega) only[go_sem,simprocAttr, *] | ((first | refine wz8 ?_ ?_|refine wz9 ?_ ?_|refine wz7 ?_ ?_)<;>intro hh <;> (try replace hh:=vqs hh) <;> (try (exfalso;first | exact hh | omega))))
    refine evB_state bo90 rfl rfl hS ?_ (fun _ _ h=>h.elim)
    rintro _ H1 ⟨rfl,ds1,hd1,hv1⟩
    have hI:=done_zero hz
    have h01 : hget H1 0 = .arr [.agg [.sl true [],.sl true []]]:=by rw [hv1.keep 0 (by simp) (not_own0 (by omega))];rfl
    have h11 : hget H1 1 = .arr [nfaD n]:=by rw [hv1.keep 1 (by simp) (not_own0 (by omega))];rfl
    have hn0 : ¬ own (dkL 3 2 ds1) 0:=fun ho=>by
      rcases hv1.ow 0 ho with h | h
      · exact not_own0 (by omega) h
      · simp at h
    have hn1 : ¬ own (dkL 3 2 ds1) 1:=fun ho=>by
      rcases hv1.ow 1 ho with h | h
      · exact not_own0 (by omega) h
      · simp at h
    clear hv1 hS hfst
    repeat' (first | apply wz1|apply wz2|apply wz3|apply wz4|apply wz5|apply wz6 | simp -dsimp (maxSteps:=999999) (disch:=omega) only[go_sem,simprocAttr, *] | ((first | refine wz8 ?_ ?_|refine wz9 ?_ ?_|refine wz7 ?_ ?_)<;>intro hh <;> (try replace hh:=vqs hh) <;> (try (exfalso;first | exact hh | omega))))
    refine wpB_loop (fun e Hi=>∃ (k i : Nat) (ls nx : List (List Int)) (ds : List D),k + i = 202 ∧ DoneI n i ls nx ∧ ls.length ≤ 200 ∧ DkAt 3 2 n nx ls ds Hi ∧ hget Hi 0 = .arr [.agg [.sl true [],.sl true []]] ∧ hget Hi 1 = .arr [nfaD n] ∧ ¬ own (dkL 3 2 ds) 0 ∧ ¬ own (dkL 3 2 ds) 1 ∧ G = runB n k i ls nx ∧ e 2 = .ptr 0 0 0 ∧ e 4 = .ptr 1 0 0 ∧ e 6 = .ptr 3 0 0 ∧ e 7 = .int .i64 i) (fun e H=>202 - natOf (e 7)) ?_ ?_
    · exact ⟨202,0,_,_,ds1,by omega,hI,by simp,hd1,h01,h11,hn0,hn1,Eq.symm hG,gs,gs,gs,gs⟩
    clear hG hI hd1 h01 h11 hn0 hn1 hz
    rintro e Hi ⟨k,i,ls,nx,ds,hk,hI,hls,hd,h0,h1,hn0,hn1,hG,e2,e4,e6,e7⟩ R hR
    obtain ⟨k,rfl⟩ : ∃ k',k = k' + 1:=⟨k - 1,by have:=hI.le;omega⟩
    obtain ⟨dN,dR,dS,rfl⟩:=ds_three hd.ms.lenX
    have hM:=hd.hM
    simp only [List.getD_cons_zero,List.getD_cons_succ] at hM
    have hlen:=fun HH=>vec_len (e:=38) (hd.ms.v 2 (by simp)) HH
    simp only [List.getD_cons_zero,List.getD_cons_succ,List.length_map] at hlen
    rw [runB] at hG
    by_cases hb : i < ls.length
    case neg=>
      rw [if_neg hb] at hG
      subst hG
      have hvN:=hd.ms.v 0 (by simp)
      have hvR:=hd.ms.v 1 (by simp)
      simp only [List.getD_cons_zero,List.getD_cons_succ] at hvN hvR
      have hl0:=lt_of_hget h0
      have k1 : ∀ ob,VecIs dN (Hi.set 0 ob) (nx.map rowD):=fun ob=>vec_keep hvN (by simp) fun r hr=>hget_set_ne fun e=>hn0 (e ▸ ⟨2,by simpa using hr⟩)
      have k2 : ∀ ob,VecIs dR (Hi.set 0 ob) ((ls.map (endsZ n)).map (.int .i64)):=fun ob=>vec_keep hvR (by simp) fun r hr=>hget_set_ne fun e=>hn0 (e ▸ ⟨3,by simpa using hr⟩)
      have hout:=fun ob=>out_dk (k1 ob) (k2 ob) 0
      clear k1 k2 hvN hvR hd
      repeat' (first | apply wz1|apply wz2|apply wz3|apply wz4|apply wz5|apply wz6 | simp -dsimp (maxSteps:=999999) (disch:=omega) only[go_sem,simprocAttr, *] | ((first | refine wz8 ?_ ?_|refine wz9 ?_ ?_|refine wz7 ?_ ?_)<;>intro hh <;> (try replace hh:=vqs hh) <;> (try (exfalso;first | exact hh | omega))))
      exact hout _
    rw [if_pos hb] at hG
    obtain ⟨q,hq⟩ : ∃ q,ls[i]? = some q:=⟨_,List.getElem?_eq_getElem hb⟩
    have hqd : ls.getD i [] = q:=by simp [List.getD_eq_getElem?_getD,hq]
    rw [hqd] at hG
    have hIs:=hI.step hb
    rw [hqd] at hIs
    repeat' (first | apply wz1|apply wz2|apply wz3|apply wz4|apply wz5|apply wz6 | simp -dsimp (maxSteps:=999999) (disch:=omega) only[go_sem,simprocAttr, *,zrR7] | ((first | refine wz8 (fun hh=>?_) (fun hh=>?_) | refine wz9 (fun hh=>?_) (fun hh=>?_) | refine wpB_cond (by simp -dsimp (maxSteps:=999999) (disch:=omega) only[go_sem,simprocAttr, *,zrR7];exact rfl) (fun hh=>?_) (fun hh=>?_)) <;> (try replace hh:=vqs hh) <;> (try (exfalso;first | exact hh | omega))))
    have hrl : hget (Hi ++ [Ob.arr [rowD (rowZ [] 0)]]) Hi.length = .arr [rowD (rowZ [] 0)]:=hget_new
    have hdr : DkAt 3 2 n nx ls [dN,dR,dS] (Hi ++ [Ob.arr [rowD (rowZ [] 0)]]):=hd.keep (by simp) fun r hr=>hget_app_lt (hd.lt hr)
    have hnr : ¬ own (dkL 3 2 [dN,dR,dS]) Hi.length:=fun ho=>by have:=hd.lt ho;omega
    have h0r : hget (Hi ++ [Ob.arr [rowD (rowZ [] 0)]]) 0 = .arr [.agg [.sl true [],.sl true []]]:=by rw [hget_app_lt (lt_of_hget h0),h0]
    have h1r : hget (Hi ++ [Ob.arr [rowD (rowZ [] 0)]]) 1 = .arr [nfaD n]:=by rw [hget_app_lt (lt_of_hget h1),h1]
    have hr0 : Hi.length ≠ 0:=by have:=lt_of_hget h0;omega
    have hr1 : Hi.length ≠ 1:=by have:=lt_of_hget h1;omega
    have hrl2 : Hi.length < (Hi ++ [Ob.arr [rowD (rowZ [] 0)]]).length:=by simp
    generalize hrr8 : Hi.length = r8 at *
    generalize Hi ++ [Ob.arr [rowD (rowZ [] 0)]] = Hr at *
    have hgood:=rowTo_good (s:=q) hI.good
    have hold:=rowTo_old n q ls
    have hlen2:=rowTo_len n q ls
    refine wpB_loop (fun e Hj=>∃ (j : Nat) (ds : List D),j ≤ 16 ∧ DkAt 3 2 n nx (rowTo n q ls j).2 ds Hj ∧ hget Hj 0 = .arr [.agg [.sl true [],.sl true []]] ∧ hget Hj 1 = .arr [nfaD n] ∧ hget Hj r8 = .arr [rowD (rowZ (rowTo n q ls j).1 j)] ∧ ¬ own (dkL 3 2 ds) 0 ∧ ¬ own (dkL 3 2 ds) 1 ∧ ¬ own (dkL 3 2 ds) r8 ∧ e 2 = .ptr 0 0 0 ∧ e 4 = .ptr 1 0 0 ∧ e 6 = .ptr 3 0 0 ∧ e 7 = .int .i64 i ∧ e 8 = .ptr r8 0 0 ∧ e 37 = .int .i64 j) (fun e H=>16 - natOf (e 37)) ?_ ?_
    · exact ⟨0,_,by omega,hdr,h0r,h1r,hrl,hn0,hn1,hnr,gs,gs,gs,gs,gs,gs⟩
    have e7o:=e7
    clear hdr hrl h0r h1r hn0 hn1 hnr hrl2 hM hlen hd h0 h1 e2 e4 e6 e7
    rintro e Hj ⟨j,ds,hj,hd,h0,h1,h8,hn0,hn1,hn8,e2,e4,e6,e7,e8,e37⟩ R2 hR2
    obtain ⟨dN,dR,dS,rfl⟩:=ds_three hd.ms.lenX
    have hM:=hd.hM
    simp only [List.getD_cons_zero,List.getD_cons_succ] at hM
    have hlj:=hlen2 j
    by_cases hbj : j < 16
    · have hqj:=hold j i q hq
      have hnz : (rowTo n q ls j).2 ≠ []:=by intro e;have k1:=hlj.2.1;have k2:=congrArg List.length e;simp only [List.length_nil] at k2;omega
      obtain ⟨rS,hdS,hgS,hrS⟩:=vec_get (hd.ms.v 2 (by simp)) (by simpa using hnz)
      simp only [List.getD_cons_zero,List.getD_cons_succ,List.length_map] at hdS hgS
      have hil : i < (rowTo n q ls j).2.length:=(List.getElem?_eq_some_iff.1 hqj).1
      have hvs : vecSize Hj rS 1 = true:=vecSize_of hgS (by simpa using hnz) (headIs _)
      have hqm : ((rowTo n q ls j).2.map isD)[i]? = some (isD q):=by simp [hqj]
      obtain ⟨-,lq,hlq⟩:=hI.good q (List.mem_of_getElem? hq)
      have hqlen : q.length ≤ 3300:=by have:=clos_len n lq;rw [← hlq] at this;omega
      have hst:=stepc_ok n q j g2 (by omega)
      rw [stepN_eq g3] at hst
      have hcl:=close_ok n (stp n j q) g2 (by have:=stp_len n j q;omega)
      rw [closeN_eq g3] at hcl
      have hs1:=stripNIc n q j
      have hs2:=stripNI n (stp n j q)
      have hS:=dstate_ok 3 2 n nx _ _ Hj (clos n (stp n j q)) hd g3 (fun s hs=>clos_in hs) (fun q' hq'=>small_good g3 (hgood j q' hq')) (by have:=clos_len n (stp n j q);omega) (by omega)
      have hlead : leadN n j q = clos n (stp n j q):=rfl
      have hre1 : (rowTo n q ls (j + 1)).1 = (rowTo n q ls j).1 ++ [(addS (rowTo n q ls j).2 (clos n (stp n j q))).1]:=rfl
      have hre2 : (rowTo n q ls (j + 1)).2 = (addS (rowTo n q ls j).2 (clos n (stp n j q))).2:=rfl
      rw [← hre2] at hS
      clear hlead hnz hlq hgood hold hlen2 hG hIs
      repeat' (first | apply wz1|apply wz2|apply wz3|apply wz4|apply wz5|apply wz6 | simp -dsimp (maxSteps:=999999) (disch:=omega) only[go_sem,simprocAttr, *] | ((first | refine wz8 ?_ ?_|refine wz9 ?_ ?_|refine wz7 ?_ ?_)<;>intro hh <;> (try replace hh:=vqs hh) <;> (try (exfalso;first | exact hh | omega))))
      refine wpB_regionXL (prs:=[]) (by kernel_rfl) rfl (by kernel_rfl) ?_
      simp -dsimp (maxSteps:=999999) (disch:=omega) only[go_sem,simprocAttr, *,isD]
      refine ⟨fun _=>congrArg Option.isSome hs1,evB_plain bo92 rfl rfl hs1 hst ?_⟩
      simp -dsimp (maxSteps:=999999) (disch:=omega) only[go_sem,simprocAttr, *]
      refine ⟨fun _=>rfl,evB_plain bo91 rfl rfl hs2 hcl ?_⟩
      simp -dsimp (maxSteps:=999999) (disch:=omega) only[go_sem,simprocAttr, *]
      refine ⟨fun h=>Bool.noConfusion (show false = true from h),evB_state bo90 rfl rfl hS ?_ (fun _ _ h=>h.elim)⟩
      rintro _ H3 ⟨rfl,ds3,hd3,hv3⟩
      have h83:=(hv3.keep r8 (lt_of_hget h8) hn8).trans h8
      have h03:=(hv3.keep 0 (lt_of_hget h0) hn0).trans h0
      have h13:=(hv3.keep 1 (lt_of_hget h1) hn1).trans h1
      have hn03 : ¬ own (dkL 3 2 ds3) 0:=fun ho=>by
        rcases hv3.ow 0 ho with h | h
        · exact hn0 h
        · have:=lt_of_hget h0;omega
      have hn13 : ¬ own (dkL 3 2 ds3) 1:=fun ho=>by
        rcases hv3.ow 1 ho with h | h
        · exact hn1 h
        · have:=lt_of_hget h1;omega
      have hn83 : ¬ own (dkL 3 2 ds3) r8:=fun ho=>by
        rcases hv3.ow r8 ho with h | h
        · exact hn8 h
        · have:=lt_of_hget h8;omega
      have hz8:=rowZ_len hlj.1 (by omega : j ≤ 16)
      have hz9:=rowZ_set hlj.1 hbj (addS (rowTo n q ls j).2 (clos n (stp n j q))).1
      rw [← hre1] at hz9
      clear hS hst hcl hs1 hs2 hv3 hd hM hgS hrS hvs hqm hre1 hre2
      generalize rowZ (rowTo n q ls j).1 j = z at *
      generalize hz2 : rowZ (rowTo n q ls (j + 1)).1 (j + 1) = z2 at *
      generalize (addS (rowTo n q ls j).2 (clos n (stp n j q))).1 = x at *
      have b1:=row_noTup z
      have b2:=row_cells z
      have b3:=row_aggQ z
      have hob : (D.agg (List.take (j * 1) (List.map (D.int .i64) z) ++ [D.int .i64 x] ++ List.drop (j * 1 + 1) (List.map (D.int .i64) z))) = rowD z2:=by
        rw [← hz9,Nat.mul_one];simp [rowD,List.map_append,List.map_take,List.map_drop]
      have hl8:=lt_of_hget h83
      have q0 : hget (H3.set r8 (.arr [rowD z2])) 0 = _:=(hget_set_ne hr0).trans h03
      have q1 : hget (H3.set r8 (.arr [rowD z2])) 1 = _:=(hget_set_ne hr1).trans h13
      have q8 : hget (H3.set r8 (.arr [rowD z2])) r8 = .arr [rowD z2]:=hget_set_eq hl8
      have qd : DkAt 3 2 n nx (rowTo n q ls (j + 1)).2 ds3 (H3.set r8 (.arr [rowD z2])):=hd3.keep (by simp) fun r hr=>hget_set_ne fun e=>hn83 (e ▸ hr)
      simp -dsimp (maxSteps:=999999) (disch:=omega) only[go_sem,simprocAttr, *]
      clear hob hz9 b1 b2 b3 hd3
      generalize H3.set r8 (.arr [rowD z2]) = H4 at *
      repeat' (first | apply wz1|apply wz2|apply wz3|apply wz4|apply wz5|apply wz6 | simp -dsimp (maxSteps:=999999) (disch:=omega) only[go_sem,simprocAttr, *] | ((first | refine wz8 ?_ ?_|refine wz9 ?_ ?_|refine wz7 ?_ ?_)<;>intro hh <;> (try replace hh:=vqs hh) <;> (try (exfalso;first | exact hh | omega))))
      refine hR2 _ _ ⟨j + 1,ds3,by omega,qd,q0,q1,by rw [hz2];exact q8,hn03,hn13,hn83,gs,gs,gs,gs,gs,gs⟩ ?_
      simp -dsimp (maxSteps:=999999) (disch:=omega) only[go_sem,simprocAttr, *,natOf_int]
    · obtain rfl : j = 16:=by omega
      have hlen:=fun HH=>vec_len (e:=38) (hd.ms.v 2 (by simp)) HH
      simp only [List.getD_cons_zero,List.getD_cons_succ,List.length_map] at hlen
      by_cases hbig : 200 < (rowTo n q ls 16).2.length
      · rw [if_pos hbig] at hG
        subst hG
        have hl0:=lt_of_hget h0
        clear hlen2 hold hgood hI hIs hd hlj
        repeat' (first | apply wz1|apply wz2|apply wz3|apply wz4|apply wz5|apply wz6 | simp -dsimp (maxSteps:=999999) (disch:=omega) only[go_sem,simprocAttr, *,bdD0] | ((first | refine wz8 (fun hh=>?_) (fun hh=>?_) | refine wz9 (fun hh=>?_) (fun hh=>?_) | refine wpB_cond (by simp -dsimp (maxSteps:=999999) (disch:=omega) only[go_sem,simprocAttr, *,bdD0];exact rfl) (fun hh=>?_) (fun hh=>?_)) <;> (try replace hh:=vqs hh) <;> (try (exfalso;first | exact hh | omega))))
        exact outPure_strip rfl
      · rw [if_neg hbig] at hG
        have hz8 : rowZ (rowTo n q ls 16).1 16 = (rowTo n q ls 16).1:=by simp [rowZ]
        rw [hz8] at h8
        have hr16:=hlj.1
        have hnl:=hI.len
        clear hlen2 hold hgood hz8
        generalize hrow : (rowTo n q ls 16).1 = row at *
        generalize hls2 : (rowTo n q ls 16).2 = ls2 at *
        have b1:=row_noTup row
        have b2:=row_cells row
        have b3:=row_aggQ row
        obtain ⟨d4,H4,a4,m4,M4,l4,k4,f4,p1,p2,p3⟩:=hd.ms.app (p:=0) (by simp) (H1:=Hj ++ [.arr [rowD row]]) el75 sz113 by113 zrR7 rfl (by decide) (by simp) (fun r hr=>hget_app_lt hr) (add_new (.inl (strip_row row))) (by rw [row_cells];simp [hr16]) (headRows nx (fun r hr=>by
          obtain ⟨j,hj,rfl⟩:=List.mem_iff_getElem.1 hr
          have:=(hI.row j (by omega)).1
          rwa [List.getD_eq_getElem?_getD,List.getElem?_eq_getElem hj] at this)) (by simp;have:=hI.le;omega)
        simp only [List.set_cons_zero,List.set_cons_succ,List.getD_cons_zero,List.getD_cons_succ] at m4 a4 k4
        simp only [List.length_append,List.length_cons,List.length_nil] at l4
        have hM4:=M4.trans hM
        have w4:=m4.m
        have hrl:=hd.rl
        have ro : ∀ i,2 ∉ objsD ([d4,dR,dS].getD i ud):=fun i hi=>by
          match i,hi with
          | 0,hi=>have:=f4 2 (by simpa using hi);omega
          | 1,hi=>exact hd.ro 1 hi
          | 2,hi=>exact hd.ro 2 hi
          | i + 3,hi=>simp [ud,objsD] at hi
        have no : ∀ r,r < Hj.length → ¬ own (dkL 3 2 [dN,dR,dS]) r → ¬ own (dkL 3 2 [d4,dR,dS]) r:=fun r hr hn ⟨i,hi⟩=>by
          match i,hi with
          | 0,hi=>exact hn ⟨0,hi⟩
          | 1,hi=>exact hn ⟨1,hi⟩
          | 2,hi=>have:=f4 r (by simpa using hi);omega
          | 3,hi=>exact hn ⟨3,hi⟩
          | 4,hi=>exact hn ⟨4,hi⟩
          | i + 5,hi=>simp [ud,objsD] at hi
        have hsame : ∀ r ob,r < Hj.length → ¬ own (dkL 3 2 [dN,dR,dS]) r → hget (H4.set 3 ob) r = hget Hj r:=fun r ob hr hn=>by
          rw [hget_set_ne (fun e=>hn ⟨0,by simp [objsD,e]⟩),k4 r hr (fun h=>hn ⟨2,h⟩)]
        have hD : DkAt 3 2 n (nx ++ [row]) ls2 [d4,dR,dS] (H4.set 3 (.arr [.agg [.sl false (n.free.map isD),.sl false (n.set.map (.int .u16)),.sl false (n.to.map (.int .i64)),.sl false (n.rule.map (.int .i64)),d4,dR,.map 2,dS]])):=by
          refine ⟨by simpa using m4.setM _,by rw [hget_set_eq w4];rfl,?_,hd.rM,ro,by simp;omega⟩
          rw [hget_set_ne (by omega),k4 2 hrl (hd.ro 0),hd.hm]
        have q0:=(hsame 0 (.arr [.agg [.sl false (n.free.map isD),.sl false (n.set.map (.int .u16)),.sl false (n.to.map (.int .i64)),.sl false (n.rule.map (.int .i64)),d4,dR,.map 2,dS]]) (lt_of_hget h0) hn0).trans h0
        have q1:=(hsame 1 (.arr [.agg [.sl false (n.free.map isD),.sl false (n.set.map (.int .u16)),.sl false (n.to.map (.int .i64)),.sl false (n.rule.map (.int .i64)),d4,dR,.map 2,dS]]) (lt_of_hget h1) hn1).trans h1
        have n0:=no 0 (lt_of_hget h0) hn0
        have n1:=no 1 (lt_of_hget h1) hn1
        have hr8l:=lt_of_hget h8
        have hsr : stripL [rowD row] = some [rowD row]:=strip1 (strip_row row)
        have hne3 : Hj.length ≠ 3:=by have:=hd.ms.m;omega
        clear hsame no ro k4 f4 m4 hd l4 hI hlj M4
        repeat' (first | apply wz1|apply wz2|apply wz3|apply wz4|apply wz5|apply wz6 | simp -dsimp (maxSteps:=999999) (disch:=omega) only[go_sem,simprocAttr, *] | ((first | refine wz8 ?_ ?_|refine wz9 ?_ ?_|refine wz7 ?_ ?_)<;>intro hh <;> (try replace hh:=vqs hh) <;> (try (exfalso;first | exact hh | omega))))
        refine wpB_regionXL (prs:=[([71],[68])]) (by kernel_rfl) rfl (by kernel_rfl) ?_;simp -dsimp (maxSteps:=999999) (disch:=omega) only[go_sem,simprocAttr, *]
        refine ⟨rfl,?_⟩
        generalize H4.set 3 (.arr [.agg [.sl false (n.free.map isD),.sl false (n.set.map (.int .u16)),.sl false (n.to.map (.int .i64)),.sl false (n.rule.map (.int .i64)),d4,dR,.map 2,dS]]) = J at *
        repeat' (first | apply wz1|apply wz2|apply wz3|apply wz4|apply wz5|apply wz6 | simp -dsimp (maxSteps:=999999) (disch:=omega) only[go_sem,simprocAttr, *] | ((first | refine wz8 ?_ ?_|refine wz9 ?_ ?_|refine wz7 ?_ ?_)<;>intro hh <;> (try replace hh:=vqs hh) <;> (try (exfalso;first | exact hh | omega))))
        refine hR _ _ ⟨k,i + 1,ls2,nx ++ [row],_,by omega,hIs,by omega,hD,q0,q1,n0,n1,hG,gs,gs,gs,gs⟩ ?_
        simp -dsimp (maxSteps:=999999) (disch:=omega) only[go_sem,simprocAttr, *,natOf_int]
end Go.Proofs.W
end
section
namespace Go.Proofs.W
open Go Vm Go.Proofs.Zs25
def force {α : Type} (m : Nat) (f : Nat → α) : α:=match m with
  | 0=>f 0
  | n + 1=>f (n + 1)
theorem force_eq {α : Type} (m : Nat) (f : Nat → α) : force m f = f m:=by cases m <;> rfl
def forceL {α : Type} : List Nat → (List Nat → α) → α
  | [],f=>f []
  | x :: r,f=>force x fun y=>forceL r fun t=>f (y :: t)
theorem forceL_eq {α : Type} : ∀ (l : List Nat) (f : List Nat → α),forceL l f = f l
  | [],_=>rfl
  | x :: r,f=>by rw [forceL,force_eq,forceL_eq r]
def ofM (k m : Nat) : List Int:=listZ k fun s=>m.testBit s
def below (k m : Nat) : Prop:=∀ t,m.testBit t = true → t < k
theorem ofM_mem {k m : Nat} (h : below k m) {t : Nat} : (t : Int) ∈ ofM k m ↔ m.testBit t = true:=by
  unfold ofM
  rw [mem_listZ]
  constructor
  · rintro ⟨i,_,h2,h3⟩
    have : t = i:=by omega
    rw [this];exact h2
  · intro ht;exact ⟨t,h t ht,ht,rfl⟩
theorem ofM_inj {k a b : Nat} (ha : below k a) (hb : below k b) (h : ofM k a = ofM k b) : a = b:=by
  apply Nat.eq_of_testBit_eq
  intro t
  rw [Bool.eq_iff_iff,← ofM_mem ha,← ofM_mem hb,h]
theorem ofM_zero (k : Nat) : ofM k 0 = []:=by
  unfold ofM listZ
  rw [List.filter_eq_nil_iff.2 (fun t _=>by simp)]
  rfl
theorem ofM_nil {k m : Nat} (h : below k m) : ofM k m = [] ↔ m = 0:=
  ⟨fun e=>ofM_inj h (fun t ht=>by simp at ht) (by rw [e,ofM_zero]),fun e=>by rw [e,ofM_zero]⟩
def stepT (n : Nfa) (T : List Nat) : List Nat:=(List.range n.set.length).map fun s=>(n.free.getD s []).foldl (fun m t=>m ||| T.getD t.toNat 0) (T.getD s 0)
def iterT (n : Nfa) : Nat → List Nat → List Nat
  | 0,T=>T
  | i + 1,T=>forceL (stepT n T) (iterT n i)
def initT (k : Nat) : List Nat:=(List.range k).map fun s=>1 <<< s
def Snd (n : Nfa) (T : List Nat) : Prop:=∀ s,s < n.set.length → ∀ t,(T.getD s 0).testBit t = true → t < n.set.length ∧ Reach n (· = s) t
def okT (n : Nfa) (R : List Nat) : Bool:=(List.range n.set.length).all fun s=>(R.getD s 0).testBit s && (n.free.getD s []).all fun t=>(R.getD t.toNat 0 ||| R.getD s 0) == R.getD s 0
theorem init_snd (n : Nfa) : Snd n (initT n.set.length):=fun s hs t ht=>by
  have e : (initT n.set.length).getD s 0 = 1 <<< s:=by simp [initT,List.getD_eq_getElem?_getD,hs]
  rw [e,Nat.one_shiftLeft,Nat.testBit_two_pow] at ht
  have : s = t:=by simpa using ht
  subst this
  exact ⟨hs,.base rfl⟩
theorem fold_bit (f : Int → Nat) : ∀ (l : List Int) (m t : Nat),(l.foldl (fun m x=>m ||| f x) m).testBit t = true ↔ m.testBit t = true ∨ ∃ x ∈ l,(f x).testBit t = true
  | [],m,t=>by simp
  | y :: r,m,t=>by
    rw [List.foldl_cons,fold_bit f r,Nat.testBit_or,Bool.or_eq_true]
    simp only [List.mem_cons,exists_eq_or_imp]
    exact or_assoc
theorem step_snd {n : Nfa} (hn : rightN n = true) {T : List Nat} (h : Snd n T) : Snd n (stepT n T):=fun s hs t ht=>by
  have e : (stepT n T).getD s 0 = (n.free.getD s []).foldl (fun m t=>m ||| T.getD t.toNat 0) (T.getD s 0):=by simp [stepT,List.getD_eq_getElem?_getD,hs]
  rw [e,fold_bit (fun t=>T.getD t.toNat 0)] at ht
  rcases ht with ht | ⟨x,hx,ht⟩
  · exact h s hs t ht
  · obtain ⟨h0,h1⟩:=right_free hn hs hx
    obtain ⟨g1,g2⟩:=h x.toNat (by omega) t ht
    refine ⟨g1,g2.sub fun y hy=>?_⟩
    subst hy
    exact .step (.base rfl) (by rwa [Int.toNat_of_nonneg h0])
theorem iter_snd {n : Nfa} (hn : rightN n = true) : ∀ (i : Nat) (T : List Nat),Snd n T → Snd n (iterT n i T)
  | 0,_,h=>h
  | i + 1,T,h=>by rw [iterT,forceL_eq];exact iter_snd hn i _ (step_snd hn h)
theorem tab_reach {n : Nfa} (hn : rightN n = true) {R : List Nat} (hS : Snd n R) (hO : okT n R = true) {s : Nat} (hs : s < n.set.length) {t : Nat} : (R.getD s 0).testBit t = true ↔ Reach n (· = s) t:=by
  have hO' : ∀ s,s < n.set.length → (R.getD s 0).testBit s = true ∧ ∀ x ∈ n.free.getD s [],∀ t,(R.getD x.toNat 0).testBit t = true → (R.getD s 0).testBit t = true:=fun s hs=>by
    have:=List.all_eq_true.1 hO s (List.mem_range.2 hs)
    simp only [Bool.and_eq_true,List.all_eq_true,beq_iff_eq] at this
    refine ⟨this.1,fun x hx t ht=>?_⟩
    rw [← this.2 x hx,Nat.testBit_or,ht];rfl
  refine ⟨fun h=>(hS s hs t h).2,fun h=>?_⟩
  have key : t < n.set.length ∧ ∀ u,(R.getD t 0).testBit u = true → (R.getD s 0).testBit u = true:=by
    induction h with
    | base h=>subst h;exact ⟨hs,fun u hu=>hu⟩
    | @step a b _ hb ih=>
      obtain ⟨ha,ih⟩:=ih
      obtain ⟨h0,h1⟩:=right_free hn ha hb
      exact ⟨by omega,fun u hu=>ih u ((hO' a ha).2 b hb u (by simpa using hu))⟩
  exact key.2 t (hO' t key.1).1
def stepM (n : Nfa) (R : List Nat) (c : Int) (q : Nat) : List Nat → Nat
  | []=>0
  | s :: r=>if q.testBit s && hit n c s then R.getD (n.to.getD s 0).toNat 0 ||| stepM n R c q r else stepM n R c q r
theorem stepM_bit {n : Nfa} {R : List Nat} {c : Int} {q t : Nat} : ∀ {l : List Nat},(stepM n R c q l).testBit t = true ↔ ∃ s ∈ l,q.testBit s = true ∧ hit n c s = true ∧ (R.getD (n.to.getD s 0).toNat 0).testBit t = true
  | []=>by simp [stepM]
  | s :: r=>by
    rw [stepM]
    split
    · rename_i h
      rw [Bool.and_eq_true] at h
      rw [Nat.testBit_or,Bool.or_eq_true,stepM_bit]
      simp only [List.mem_cons,exists_eq_or_imp,h.1,h.2,true_and]
    · rename_i h
      rw [Bool.and_eq_true] at h
      rw [stepM_bit]
      simp only [List.mem_cons,exists_eq_or_imp]
      constructor
      · exact .inr
      · rintro (⟨h1,h2,_⟩ | h1)
        · exact absurd ⟨h1,h2⟩ h
        · exact h1
theorem Reach.from {n : Nfa} {p : Nat → Prop} {t : Nat} (h : Reach n p t) : ∃ b,p b ∧ Reach n (· = b) t:=by
  induction h with
  | base h=>exact ⟨_,h,.base rfl⟩
  | step _ h ih=>
    obtain ⟨b,h1,h2⟩:=ih
    exact ⟨b,h1,.step h2 h⟩
theorem step_below {n : Nfa} {R : List Nat} {c : Int} {q : Nat} (hn : rightN n = true) (hS : Snd n R) (hlen : R.length ≤ n.set.length) {l : List Nat} : below n.set.length (stepM n R c q l):=fun t ht=>by
  obtain ⟨s,_,_,_,h⟩:=stepM_bit.1 ht
  by_cases hs : (n.to.getD s 0).toNat < n.set.length
  · exact (hS _ hs t h).1
  · rw [List.getD_eq_getElem?_getD,List.getElem?_eq_none (by omega)] at h
    simp at h
theorem lead_eq {n : Nfa} {R : List Nat} (hn : rightN n = true) (hS : Snd n R) (hO : okT n R = true) (c : Int) {q : Nat} (hq : below n.set.length q) : leadN n c (ofM n.set.length q) = ofM n.set.length (stepM n R c q (List.range n.set.length)):=by
  refine strict_unique (listZ_strict _ _) (listZ_strict _ _) fun x=>?_
  unfold leadN clos
  rw [mem_listZ]
  unfold ofM
  rw [mem_listZ]
  have hto : ∀ s,s < n.set.length → hit n c s = true → 0 ≤ n.to.getD s 0 ∧ n.to.getD s 0 < n.set.length:=fun s hs hh=>by
    have:=(right_row hn).2.2.2.2.2 s hs
    simp only [rowOk,Bool.and_eq_true,Bool.not_eq_true',Bool.and_eq_false_iff,decide_eq_false_iff_not,Bool.not_eq_false'] at this
    rcases this.1.1.1 with h0 | h0
    · have h0' : n.set.getD s 0 = 0:=by simpa using h0
      rw [hit,inB,h0',bitZ_zero] at hh
      simp at hh
    · exact isS_iff.1 h0
  constructor
  · rintro ⟨i,h1,h2,h3⟩
    obtain ⟨b,⟨hb1,hb2⟩,hb3⟩:=Reach.from (clo_iff.1 h2)
    unfold stp at hb2
    obtain ⟨b',g1,g2,g3⟩:=mem_listZ.1 hb2
    obtain rfl : b = b':=by omega
    unfold stepTo at g2
    obtain ⟨s,g4,g5⟩:=List.any_eq_true.1 g2
    simp only [Bool.and_eq_true,decide_eq_true_eq] at g5
    have hs:=List.mem_range.1 g4
    refine ⟨i,h1,stepM_bit.2 ⟨s,g4,(ofM_mem hq).1 g5.1.1,g5.1.2,?_⟩,h3⟩
    rw [g5.2,Int.toNat_natCast]
    exact (tab_reach hn hS hO hb1).2 hb3
  · rintro ⟨i,h1,h2,h3⟩
    obtain ⟨s,g4,g5,g6,g7⟩:=stepM_bit.1 h2
    have hs:=List.mem_range.1 g4
    obtain ⟨t0,t1⟩:=hto s hs g6
    have hr:=(tab_reach hn hS hO (by omega)).1 g7
    refine ⟨i,h1,clo_iff.2 (hr.sub fun y hy=>?_),h3⟩
    subst hy
    refine .base ⟨by omega,?_⟩
    unfold stp
    refine mem_listZ.2 ⟨(n.to.getD s 0).toNat,by omega,?_,rfl⟩
    unfold stepTo
    refine List.any_eq_true.2 ⟨s,g4,?_⟩
    simp only [Bool.and_eq_true,decide_eq_true_eq]
    exact ⟨⟨(ofM_mem hq).2 g5,g6⟩,by rw [Int.toNat_of_nonneg t0]⟩
theorem start_eq {n : Nfa} {R : List Nat} (hn : rightN n = true) (hS : Snd n R) (hO : okT n R = true) : clos n [0] = ofM n.set.length (R.getD 0 0):=by
  have hk:=(right_row hn).1
  refine strict_unique (listZ_strict _ _) (listZ_strict _ _) fun x=>?_
  unfold clos
  rw [mem_listZ]
  unfold ofM
  rw [mem_listZ]
  constructor
  · rintro ⟨i,h1,h2,h3⟩
    refine ⟨i,h1,(tab_reach hn hS hO (by omega)).2 ((clo_iff.1 h2).sub fun y hy=>.base ?_),h3⟩
    have:=hy.2
    simp at this
    omega
  · rintro ⟨i,h1,h2,h3⟩
    refine ⟨i,h1,clo_iff.2 (((tab_reach hn hS hO (by omega)).1 h2).sub fun y hy=>.base ⟨by omega,by simp [hy]⟩),h3⟩
def placeM (m : Nat) : Nat → List Nat → Option Nat
  | _,[]=>none
  | i,q :: ls=>if m = q then some i else placeM m (i + 1) ls
def addM (ls : List Nat) (m : Nat) : Int × List Nat:=if m = 0 then (-1,ls) else match placeM m 0 ls with
  | some j=>(j,ls)
  | none=>(ls.length,ls ++ [m])
theorem place_eq {k m : Nat} (hm : below k m) : ∀ (ls : List Nat) (i : Nat),(∀ q ∈ ls,below k q) → placeS (ofM k m) i (ls.map (ofM k)) = placeM m i ls
  | [],_,_=>rfl
  | q :: ls,i,h=>by
    rw [List.map_cons,placeS,placeM,place_eq hm ls (i + 1) fun x hx=>h x (List.mem_cons_of_mem _ hx)]
    by_cases e : m = q
    · rw [if_pos e,if_pos (by rw [e])]
    · rw [if_neg e,if_neg fun h'=>e (ofM_inj hm (h q List.mem_cons_self) h')]
theorem add_eqM {k m : Nat} (hm : below k m) {ls : List Nat} (h : ∀ q ∈ ls,below k q) : addS (ls.map (ofM k)) (ofM k m) = ((addM ls m).1,(addM ls m).2.map (ofM k)) ∧ ∀ q ∈ (addM ls m).2,below k q:=by
  unfold addS addM
  by_cases e : m = 0
  · rw [if_pos e,if_pos ((ofM_nil hm).2 e)]
    exact ⟨rfl,h⟩
  · rw [if_neg e,if_neg fun h'=>e ((ofM_nil hm).1 h'),place_eq hm ls 0 h]
    cases placeM m 0 ls with
    | some j=>exact ⟨rfl,h⟩
    | none=>
      refine ⟨by simp,fun q hq=>?_⟩
      rcases List.mem_append.1 hq with hq | hq
      · exact h q hq
      · rw [List.mem_singleton.1 hq];exact hm
def rowM (n : Nfa) (R : List Nat) (q : Nat) : Nat → Nat → List Int → List Nat → List Int × List Nat
  | 0,_,r,ls=>(r,ls)
  | f + 1,c,r,ls=>force (stepM n R c q (List.range n.set.length)) fun m=>match addM ls m with
    | (j,ls')=>rowM n R q f (c + 1) (r ++ [j]) ls'
theorem row_eqM {n : Nfa} {R : List Nat} (hn : rightN n = true) (hS : Snd n R) (hO : okT n R = true) (hlen : R.length ≤ n.set.length) {q : Nat} (hq : below n.set.length q) (ls0 : List (List Int)) : ∀ (f c : Nat) (r : List Int) (ls : List Nat),(∀ x ∈ ls,below n.set.length x) → rowTo n (ofM n.set.length q) ls0 c = (r,ls.map (ofM n.set.length)) →
    rowTo n (ofM n.set.length q) ls0 (c + f) = ((rowM n R q f c r ls).1,(rowM n R q f c r ls).2.map (ofM n.set.length)) ∧ ∀ x ∈ (rowM n R q f c r ls).2,below n.set.length x
  | 0,c,r,ls,hb,h=>⟨h,hb⟩
  | f + 1,c,r,ls,hb,h=>by
    rw [rowM,force_eq]
    have hl:=lead_eq hn hS hO c hq
    have hbm : below n.set.length (stepM n R c q (List.range n.set.length)):=step_below hn hS hlen
    generalize stepM n R c q (List.range n.set.length) = m at *
    obtain ⟨g1,g2⟩:=add_eqM hbm hb
    have hre : rowTo n (ofM n.set.length q) ls0 (c + 1) = (r ++ [(addM ls m).1],(addM ls m).2.map (ofM n.set.length)):=by
      rw [rowTo,h]
      simp only
      rw [hl,g1]
    have ih:=row_eqM hn hS hO hlen hq ls0 f (c + 1) _ _ g2 hre
    rw [show c + (f + 1) = c + 1 + f by omega]
    exact ih
def runM (n : Nfa) (R : List Nat) : Nat → Nat → List Nat → List (List Int) → Option (List Nat × List (List Int))
  | 0,_,_,_=>none
  | k + 1,i,ls,nx=>match ls[i]? with
    | none=>some (ls,nx)
    | some q=>match rowM n R q 16 0 [] ls with
      | (r,ls')=>if 200 < ls'.length then none else runM n R k (i + 1) ls' (nx ++ [r])
theorem run_eqM {n : Nfa} {R : List Nat} (hn : rightN n = true) (hS : Snd n R) (hO : okT n R = true) (hlen : R.length ≤ n.set.length) : ∀ (k i : Nat) (ls : List Nat) (nx : List (List Int)),(∀ x ∈ ls,below n.set.length x) → runB n k i (ls.map (ofM n.set.length)) nx = (runM n R k i ls nx).map fun p=>(p.1.map (ofM n.set.length),p.2)
  | 0,_,_,_,_=>rfl
  | k + 1,i,ls,nx,hb=>by
    rw [runB,runM]
    by_cases hi : i < ls.length
    · have hq : ls[i]? = some ls[i]:=List.getElem?_eq_getElem hi
      have hqd : (ls.map (ofM n.set.length)).getD i [] = ofM n.set.length ls[i]:=by simp [List.getD_eq_getElem?_getD,hi]
      rw [if_pos (by simpa using hi),hq,hqd]
      simp only
      obtain ⟨h1,h2⟩:=row_eqM hn hS hO hlen (hb _ (List.getElem_mem hi)) (ls.map (ofM n.set.length)) 16 0 [] ls hb rfl
      rw [Nat.zero_add] at h1
      rw [h1]
      simp only [List.length_map]
      split
      · rfl
      · exact run_eqM hn hS hO hlen k (i + 1) _ _ h2
    · rw [if_neg (by simpa using hi),List.getElem?_eq_none (by omega)]
      rfl
def compM (n : Nfa) (N : Nat) : Option (List (List Int) × List Int):=
  if rightN n = true then forceL (iterT n N (initT n.set.length)) fun R=>if okT n R = true then
    (runM n R 202 0 [R.getD 0 0] []).map fun p=>(p.2,p.1.map fun m=>endsZ n (ofM n.set.length m)) else none else none
theorem iter_len (n : Nfa) : ∀ (i : Nat) (T : List Nat),T.length = n.set.length → (iterT n i T).length = n.set.length
  | 0,_,h=>h
  | i + 1,T,_=>by rw [iterT,forceL_eq];exact iter_len n i _ (by simp [stepT])
theorem dbuild_comp {l : List Rx} {n : Nfa} {N : Nat} {nx : List (List Int)} {rl : List Int} (hb : buildN l = some n) (h : compM n N = some (nx,rl)) : dbuild l = (⟨nx,rl⟩,0):=by
  unfold compM at h
  rw [forceL_eq] at h
  split at h
  · rename_i hn
    split at h
    · rename_i hO
      have hS:=iter_snd hn N _ (init_snd n)
      have hlen:=iter_len n N (initT n.set.length) (by simp [initT])
      generalize iterT n N (initT n.set.length) = R at *
      have hk:=(right_row hn).1
      have hb0 : below n.set.length (R.getD 0 0):=fun t ht=>(hS 0 (by omega) t ht).1
      have hr:=run_eqM hn hS hO (by omega) 202 0 [R.getD 0 0] [] (fun x hx=>by rw [List.mem_singleton.1 hx];exact hb0)
      rw [List.map_cons,List.map_nil,← start_eq hn hS hO] at hr
      cases hq : runM n R 202 0 [R.getD 0 0] [] with
      | none=>rw [hq] at h;cases h
      | some p=>
        rw [hq] at h hr
        obtain ⟨ls,nx'⟩:=p
        simp only [Option.map_some,Option.some.injEq,Prod.mk.injEq] at h hr
        obtain ⟨rfl,rfl⟩:=h
        unfold dbuild
        rw [hb]
        simp only
        rw [hr]
        simp [mkDfa]
    · cases h
  · cases h
end Go.Proofs.W
end
section
namespace Go.Proofs.W
open Go Vm Go.Proofs.Zs25
def gr1 : List Rx:=[.mk 2 0 [.mk 1 17542 [],.mk 5 0 [.mk 1 8 []],.mk 4 0 [.mk 2 0 [.mk 1 16 [],.mk 5 0 [.mk 1 768 []],.mk 1 130 [],.mk 5 0 [.mk 1 8 []]]],.mk 4 0 [.mk 1 784 []],.mk 4 0 [.mk 1 8192 []],.mk 4 0 [.mk 1 32800 []],.mk 4 0 [.mk 1 64 []]],.mk 2 0 [.mk 1 41848 [],.mk 4 0 [.mk 1 41848 []]]]
def nf1 : Nfa:=⟨[[1,41],[2],[],[4],[5,7],[],[7],[8],[9,23],[10],[],[12],[13,15],[],[15],[16],[],[18],[19,21],[],[21],[22],[9,23],[24],[25,27],[],[25,27],[28],[29,31],[],[29,31],[32],[33,35],[],[33,35],[36],[37,39],[],[37,39],[40],[],[42],[],[44],[45,47],[],[45,47],[48],[]],[0,0,17542,0,0,8,0,0,0,0,16,0,0,768,0,0,130,0,0,8,0,0,0,0,0,784,0,0,0,8192,0,0,0,32800,0,0,0,64,0,0,0,0,41848,0,0,41848,0,0,0],[0,0,3,0,0,6,0,0,0,0,11,0,0,14,0,0,17,0,0,20,0,0,0,0,0,26,0,0,0,30,0,0,0,34,0,0,0,38,0,0,0,0,43,0,0,46,0,0,0],[-1,-1,-1,-1,-1,-1,-1,-1,-1,-1,-1,-1,-1,-1,-1,-1,-1,-1,-1,-1,-1,-1,-1,-1,-1,-1,-1,-1,-1,-1,-1,-1,-1,-1,-1,-1,-1,-1,-1,-1,0,-1,-1,-1,-1,-1,-1,-1,1]⟩
def nx1 : List (List Int):=[[-1,1,1,2,2,2,2,1,2,2,1,-1,-1,2,1,2],[-1,-1,-1,3,4,5,6,-1,7,7,-1,-1,-1,8,-1,5],[-1,-1,-1,9,9,9,9,-1,9,9,-1,-1,-1,9,-1,9],[-1,-1,-1,-1,4,5,6,-1,7,7,-1,-1,-1,8,-1,5],[-1,10,-1,-1,7,5,6,10,11,11,-1,-1,-1,8,-1,5],[-1,-1,-1,-1,-1,5,6,-1,-1,-1,-1,-1,-1,-1,-1,5],[-1,-1,-1,-1,-1,-1,6,-1,-1,-1,-1,-1,-1,-1,-1,-1],[-1,-1,-1,-1,7,5,6,-1,7,7,-1,-1,-1,8,-1,5],[-1,-1,-1,-1,-1,5,6,-1,-1,-1,-1,-1,-1,8,-1,5],[-1,-1,-1,9,9,9,9,-1,9,9,-1,-1,-1,9,-1,9],[-1,-1,-1,12,4,5,6,-1,7,7,-1,-1,-1,8,-1,5],[-1,10,-1,-1,7,5,6,10,7,7,-1,-1,-1,8,-1,5],[-1,-1,-1,-1,4,5,6,-1,7,7,-1,-1,-1,8,-1,5]]
def rl1 : List Int:=[-1,0,1,0,0,0,0,0,0,1,0,0,0]
theorem bld1 : buildN gr1 = some nf1:=by kernel_rfl
theorem cmp1 : compM nf1 60 = some (nx1,rl1):=by kernel_rfl
theorem okg1 : ∀ r ∈ gr1,okR r:=fun r hr=>okL_get (l:=gr1) (by simp [gr1,okL,okR]) r hr
theorem told1 : PureF Tryz.prog A 70 [rxsD gr1] (.tup [dfaD ⟨nx1,rl1⟩,.int .i64 0]):=by
  have h:=dbuild_ok gr1 (fun _=>okg1) (by decide)
  rw [dbuild_comp bld1 cmp1] at h
  exact h
def gr2 : List Rx:=[.mk 2 0 [.mk 4 0 [.mk 2 0 [.mk 1 130 [],.mk 5 0 [.mk 1 8 []],.mk 1 16 [],.mk 5 0 [.mk 1 768 []]]],.mk 1 130 [],.mk 5 0 [.mk 1 8 []],.mk 4 0 [.mk 1 784 []],.mk 4 0 [.mk 1 8192 []],.mk 4 0 [.mk 1 32800 []],.mk 5 0 [.mk 1 8 []],.mk 4 0 [.mk 1 64 []]],.mk 2 0 [.mk 5 0 [.mk 2 0 [.mk 1 128 [],.mk 1 16 []]],.mk 1 4 [],.mk 5 0 [.mk 1 8 []],.mk 4 0 [.mk 2 0 [.mk 1 16 [],.mk 1 130 [],.mk 5 0 [.mk 1 8 []]]],.mk 4 0 [.mk 1 32800 []],.mk 4 0 [.mk 1 64 []]],.mk 2 0 [.mk 1 17408 [],.mk 5 0 [.mk 1 8 []],.mk 4 0 [.mk 2 0 [.mk 1 16 [],.mk 1 130 [],.mk 5 0 [.mk 1 8 []]]],.mk 4 0 [.mk 1 32800 []],.mk 4 0 [.mk 1 64 []]],.mk 2 0 [.mk 1 41848 [],.mk 4 0 [.mk 1 41848 []]]]
def nf2 : Nfa:=⟨[[1,45,81,109],[2],[3,17],[4],[],[6],[7,9],[],[9],[10],[],[12],[13,15],[],[15],[16],[3,17],[18],[],[20],[21,23],[],[23],[24],[25,27],[],[25,27],[28],[29,31],[],[29,31],[32],[33,35],[],[33,35],[36],[37,39],[],[39],[40],[41,43],[],[41,43],[44],[],[46],[47,53],[48],[],[50],[],[52],[53],[54],[],[56],[57,59],[],[59],[60],[61,71],[62],[],[64],[],[66],[67,69],[],[69],[70],[61,71],[72],[73,75],[],[73,75],[76],[77,79],[],[77,79],[80],[],[82],[],[84],[85,87],[],[87],[88],[89,99],[90],[],[92],[],[94],[95,97],[],[97],[98],[89,99],[100],[101,103],[],[101,103],[104],[105,107],[],[105,107],[108],[],[110],[],[112],[113,115],[],[113,115],[116],[]],[0,0,0,0,130,0,0,8,0,0,16,0,0,768,0,0,0,0,130,0,0,8,0,0,0,784,0,0,0,8192,0,0,0,32800,0,0,0,8,0,0,0,64,0,0,0,0,0,0,128,0,16,0,0,0,4,0,0,8,0,0,0,0,16,0,130,0,0,8,0,0,0,0,0,32800,0,0,0,64,0,0,0,0,17408,0,0,8,0,0,0,0,16,0,130,0,0,8,0,0,0,0,0,32800,0,0,0,64,0,0,0,0,41848,0,0,41848,0,0,0],[0,0,0,0,5,0,0,8,0,0,11,0,0,14,0,0,0,0,19,0,0,22,0,0,0,26,0,0,0,30,0,0,0,34,0,0,0,38,0,0,0,42,0,0,0,0,0,0,49,0,51,0,0,0,55,0,0,58,0,0,0,0,63,0,65,0,0,68,0,0,0,0,0,74,0,0,0,78,0,0,0,0,83,0,0,86,0,0,0,0,91,0,93,0,0,96,0,0,0,0,0,102,0,0,0,106,0,0,0,0,111,0,0,114,0,0,0],[-1,-1,-1,-1,-1,-1,-1,-1,-1,-1,-1,-1,-1,-1,-1,-1,-1,-1,-1,-1,-1,-1,-1,-1,-1,-1,-1,-1,-1,-1,-1,-1,-1,-1,-1,-1,-1,-1,-1,-1,-1,-1,-1,-1,0,-1,-1,-1,-1,-1,-1,-1,-1,-1,-1,-1,-1,-1,-1,-1,-1,-1,-1,-1,-1,-1,-1,-1,-1,-1,-1,-1,-1,-1,-1,-1,-1,-1,-1,-1,1,-1,-1,-1,-1,-1,-1,-1,-1,-1,-1,-1,-1,-1,-1,-1,-1,-1,-1,-1,-1,-1,-1,-1,-1,-1,-1,-1,2,-1,-1,-1,-1,-1,-1,-1,3]⟩
def nx2 : List (List Int):=[[-1,1,2,3,3,3,3,4,3,3,5,-1,-1,3,5,3],[-1,-1,-1,6,7,8,9,-1,10,10,-1,-1,-1,11,-1,8],[-1,-1,-1,12,13,14,15,-1,-1,-1,-1,-1,-1,-1,-1,14],[-1,-1,-1,16,16,16,16,-1,16,16,-1,-1,-1,16,-1,16],[-1,-1,-1,6,17,8,9,-1,10,10,-1,-1,-1,11,-1,8],[-1,-1,-1,18,19,20,21,-1,-1,-1,-1,-1,-1,-1,-1,20],[-1,-1,-1,22,7,8,9,-1,10,10,-1,-1,-1,11,-1,8],[-1,1,-1,22,10,8,9,1,23,23,-1,-1,-1,11,-1,8],[-1,-1,-1,22,-1,8,9,-1,-1,-1,-1,-1,-1,-1,-1,8],[-1,-1,-1,-1,-1,-1,9,-1,-1,-1,-1,-1,-1,-1,-1,-1],[-1,-1,-1,22,10,8,9,-1,10,10,-1,-1,-1,11,-1,8],[-1,-1,-1,22,-1,8,9,-1,-1,-1,-1,-1,-1,11,-1,8],[-1,-1,-1,-1,13,14,15,-1,-1,-1,-1,-1,-1,-1,-1,14],[-1,24,-1,-1,-1,-1,-1,24,-1,-1,-1,-1,-1,-1,-1,-1],[-1,-1,-1,-1,-1,14,15,-1,-1,-1,-1,-1,-1,-1,-1,14],[-1,-1,-1,-1,-1,-1,15,-1,-1,-1,-1,-1,-1,-1,-1,-1],[-1,-1,-1,16,16,16,16,-1,16,16,-1,-1,-1,16,-1,16],[-1,1,2,22,10,8,9,1,23,23,-1,-1,-1,11,-1,8],[-1,-1,-1,-1,19,20,21,-1,-1,-1,-1,-1,-1,-1,-1,20],[-1,25,-1,-1,-1,-1,-1,25,-1,-1,-1,-1,-1,-1,-1,-1],[-1,-1,-1,-1,-1,20,21,-1,-1,-1,-1,-1,-1,-1,-1,20],[-1,-1,-1,-1,-1,-1,21,-1,-1,-1,-1,-1,-1,-1,-1,-1],[-1,-1,-1,-1,-1,-1,9,-1,-1,-1,-1,-1,-1,-1,-1,-1],[-1,1,-1,22,10,8,9,1,10,10,-1,-1,-1,11,-1,8],[-1,-1,-1,26,13,14,15,-1,-1,-1,-1,-1,-1,-1,-1,14],[-1,-1,-1,27,19,20,21,-1,-1,-1,-1,-1,-1,-1,-1,20],[-1,-1,-1,-1,13,14,15,-1,-1,-1,-1,-1,-1,-1,-1,14],[-1,-1,-1,-1,19,20,21,-1,-1,-1,-1,-1,-1,-1,-1,20]]
def rl2 : List Int:=[-1,0,1,3,0,2,0,0,0,0,0,0,1,-1,1,1,3,0,2,-1,2,2,0,0,1,2,1,2]
theorem bld2 : buildN gr2 = some nf2:=by kernel_rfl
theorem cmp2 : compM nf2 60 = some (nx2,rl2):=by kernel_rfl
theorem okg2 : ∀ r ∈ gr2,okR r:=fun r hr=>okL_get (l:=gr2) (by simp [gr2,okL,okR]) r hr
theorem told2 : PureF Tryz.prog A 70 [rxsD gr2] (.tup [dfaD ⟨nx2,rl2⟩,.int .i64 0]):=by
  have h:=dbuild_ok gr2 (fun _=>okg2) (by decide)
  rw [dbuild_comp bld2 cmp2] at h
  exact h
def gr3 : List Rx:=[.mk 2 0 [.mk 1 1158 [],.mk 4 0 [.mk 1 36872 []],.mk 4 0 [.mk 2 0 [.mk 1 2048 [],.mk 1 134 [],.mk 5 0 [.mk 1 8 []]]],.mk 4 0 [.mk 1 32800 []],.mk 4 0 [.mk 1 64 []],.mk 4 0 [.mk 1 8192 []]],.mk 2 0 [.mk 1 47208 [],.mk 4 0 [.mk 1 47208 []]]]
def nf3 : Nfa:=⟨[[1,33],[2],[],[4],[5,7],[],[5,7],[8],[9,19],[10],[],[12],[],[14],[15,17],[],[17],[18],[9,19],[20],[21,23],[],[21,23],[24],[25,27],[],[25,27],[28],[29,31],[],[29,31],[32],[],[34],[],[36],[37,39],[],[37,39],[40],[]],[0,0,1158,0,0,36872,0,0,0,0,2048,0,134,0,0,8,0,0,0,0,0,32800,0,0,0,64,0,0,0,8192,0,0,0,0,47208,0,0,47208,0,0,0],[0,0,3,0,0,6,0,0,0,0,11,0,13,0,0,16,0,0,0,0,0,22,0,0,0,26,0,0,0,30,0,0,0,0,35,0,0,38,0,0,0],[-1,-1,-1,-1,-1,-1,-1,-1,-1,-1,-1,-1,-1,-1,-1,-1,-1,-1,-1,-1,-1,-1,-1,-1,-1,-1,-1,-1,-1,-1,-1,-1,0,-1,-1,-1,-1,-1,-1,-1,1]⟩
def nx3 : List (List Int):=[[-1,1,1,2,-1,2,2,1,-1,-1,1,2,2,2,-1,2],[-1,-1,-1,3,-1,4,5,-1,-1,-1,-1,6,3,7,-1,8],[-1,-1,-1,9,-1,9,9,-1,-1,-1,-1,9,9,9,-1,9],[-1,-1,-1,3,-1,4,5,-1,-1,-1,-1,6,3,7,-1,8],[-1,-1,-1,-1,-1,4,5,-1,-1,-1,-1,-1,-1,7,-1,4],[-1,-1,-1,-1,-1,-1,5,-1,-1,-1,-1,-1,-1,7,-1,-1],[-1,10,10,-1,-1,-1,-1,10,-1,-1,-1,-1,-1,-1,-1,-1],[-1,-1,-1,-1,-1,-1,-1,-1,-1,-1,-1,-1,-1,7,-1,-1],[-1,-1,-1,3,-1,4,5,-1,-1,-1,-1,6,3,7,-1,8],[-1,-1,-1,9,-1,9,9,-1,-1,-1,-1,9,9,9,-1,9],[-1,-1,-1,11,-1,4,5,-1,-1,-1,-1,6,-1,7,-1,4],[-1,-1,-1,-1,-1,4,5,-1,-1,-1,-1,6,-1,7,-1,4]]
def rl3 : List Int:=[-1,0,1,0,0,0,-1,0,0,1,0,0]
theorem bld3 : buildN gr3 = some nf3:=by kernel_rfl
theorem cmp3 : compM nf3 60 = some (nx3,rl3):=by kernel_rfl
theorem okg3 : ∀ r ∈ gr3,okR r:=fun r hr=>okL_get (l:=gr3) (by simp [gr3,okL,okR]) r hr
theorem told3 : PureF Tryz.prog A 70 [rxsD gr3] (.tup [dfaD ⟨nx3,rl3⟩,.int .i64 0]):=by
  have h:=dbuild_ok gr3 (fun _=>okg3) (by decide)
  rw [dbuild_comp bld3 cmp3] at h
  exact h
def gr4 : List Rx:=[.mk 2 0 [.mk 5 0 [.mk 2 0 [.mk 1 128 [],.mk 1 4096 [],.mk 1 2048 []]],.mk 1 17542 [],.mk 5 0 [.mk 1 8 []],.mk 4 0 [.mk 2 0 [.mk 1 2048 [],.mk 1 130 [],.mk 5 0 [.mk 1 8 []]]],.mk 5 0 [.mk 1 4096 []],.mk 4 0 [.mk 1 8192 []],.mk 4 0 [.mk 1 32800 []],.mk 5 0 [.mk 1 4096 []],.mk 4 0 [.mk 1 64 []]],.mk 2 0 [.mk 1 47224 [],.mk 4 0 [.mk 1 47224 []]]]
def nf4 : Nfa:=⟨[[1,51],[2],[3,11],[4],[],[6],[],[8],[],[10],[11],[12],[],[14],[15,17],[],[17],[18],[19,29],[20],[],[22],[],[24],[25,27],[],[27],[28],[19,29],[30],[31,33],[],[33],[34],[35,37],[],[35,37],[38],[39,41],[],[39,41],[42],[43,45],[],[45],[46],[47,49],[],[47,49],[50],[],[52],[],[54],[55,57],[],[55,57],[58],[]],[0,0,0,0,128,0,4096,0,2048,0,0,0,17542,0,0,8,0,0,0,0,2048,0,130,0,0,8,0,0,0,0,0,4096,0,0,0,8192,0,0,0,32800,0,0,0,4096,0,0,0,64,0,0,0,0,47224,0,0,47224,0,0,0],[0,0,0,0,5,0,7,0,9,0,0,0,13,0,0,16,0,0,0,0,21,0,23,0,0,26,0,0,0,0,0,32,0,0,0,36,0,0,0,40,0,0,0,44,0,0,0,48,0,0,0,0,53,0,0,56,0,0,0],[-1,-1,-1,-1,-1,-1,-1,-1,-1,-1,-1,-1,-1,-1,-1,-1,-1,-1,-1,-1,-1,-1,-1,-1,-1,-1,-1,-1,-1,-1,-1,-1,-1,-1,-1,-1,-1,-1,-1,-1,-1,-1,-1,-1,-1,-1,-1,-1,-1,-1,0,-1,-1,-1,-1,-1,-1,-1,1]⟩
def nx4 : List (List Int):=[[-1,1,1,2,2,2,2,3,-1,-1,1,2,2,2,1,2],[-1,-1,-1,4,-1,5,6,-1,-1,-1,-1,7,8,9,-1,5],[-1,-1,-1,10,10,10,10,-1,-1,-1,-1,10,10,10,-1,10],[-1,-1,-1,4,-1,5,6,-1,-1,-1,-1,7,11,9,-1,5],[-1,-1,-1,-1,-1,5,6,-1,-1,-1,-1,7,8,9,-1,5],[-1,-1,-1,-1,-1,5,6,-1,-1,-1,-1,-1,12,-1,-1,5],[-1,-1,-1,-1,-1,-1,6,-1,-1,-1,-1,-1,-1,-1,-1,-1],[-1,13,-1,-1,-1,-1,-1,13,-1,-1,-1,-1,-1,-1,-1,-1],[-1,-1,-1,-1,-1,5,6,-1,-1,-1,-1,-1,12,9,-1,5],[-1,-1,-1,-1,-1,5,6,-1,-1,-1,-1,-1,12,9,-1,5],[-1,-1,-1,10,10,10,10,-1,-1,-1,-1,10,10,10,-1,10],[-1,-1,-1,-1,-1,5,6,-1,-1,-1,-1,14,12,9,-1,5],[-1,-1,-1,-1,-1,-1,6,-1,-1,-1,-1,-1,-1,-1,-1,-1],[-1,-1,-1,15,-1,5,6,-1,-1,-1,-1,7,8,9,-1,5],[-1,1,1,-1,-1,-1,-1,1,-1,-1,1,-1,-1,-1,1,-1],[-1,-1,-1,-1,-1,5,6,-1,-1,-1,-1,7,8,9,-1,5]]
def rl4 : List Int:=[-1,0,1,0,0,0,0,-1,0,0,1,0,0,0,-1,0]
theorem bld4 : buildN gr4 = some nf4:=by kernel_rfl
theorem cmp4 : compM nf4 60 = some (nx4,rl4):=by kernel_rfl
theorem okg4 : ∀ r ∈ gr4,okR r:=fun r hr=>okL_get (l:=gr4) (by simp [gr4,okL,okR]) r hr
theorem told4 : PureF Tryz.prog A 70 [rxsD gr4] (.tup [dfaD ⟨nx4,rl4⟩,.int .i64 0]):=by
  have h:=dbuild_ok gr4 (fun _=>okg4) (by decide)
  rw [dbuild_comp bld4 cmp4] at h
  exact h
end Go.Proofs.W
end
section
namespace Go.Proofs.W
open Go Vm Go.Proofs.Zs25
def tx1 : List UInt8:=[115,116,100,58,32,91,67,82,86,68,81,93,78,63,40,72,91,74,87,93,63,91,67,82,93,78,63,41,42,91,72,74,87,93,42,84,42,91,77,88,93,42,83,42,10,98,97,100,33,58,32,91,78,72,77,83,84,88,74,87,93,43]
def ru1 : D:=.tup [.sl false [.agg (.str [115,116,100] :: (rxD (gr1.getD 0 default)).cells ++ [.bool false]),.agg (.str [98,97,100] :: (rxD (gr1.getD 1 default)).cells ++ [.bool true])],.int .i64 0,.int .i64 0]
theorem prs1 : PureF Tryz.prog A 27 [.str tx1] ru1:=tells_pure (k:=300) (by kernel_rfl)
def tx2 : List UInt8:=[99,111,110,115,58,32,40,91,67,82,93,78,63,72,91,74,87,93,63,41,42,91,67,82,93,78,63,91,72,74,87,93,42,84,42,91,77,88,93,42,78,63,83,42,10,118,111,119,58,32,40,82,72,41,63,86,78,63,40,72,91,67,82,93,78,63,41,42,91,77,88,93,42,83,42,10,112,108,97,99,101,58,32,91,68,81,93,78,63,40,72,91,67,82,93,78,63,41,42,91,77,88,93,42,83,42,10,98,97,100,33,58,32,91,78,72,77,83,84,88,74,87,93,43]
def ru2 : D:=.tup [.sl false [.agg (.str [99,111,110,115] :: (rxD (gr2.getD 0 default)).cells ++ [.bool false]),.agg (.str [118,111,119] :: (rxD (gr2.getD 1 default)).cells ++ [.bool false]),.agg (.str [112,108,97,99,101] :: (rxD (gr2.getD 2 default)).cells ++ [.bool false]),.agg (.str [98,97,100] :: (rxD (gr2.getD 3 default)).cells ++ [.bool true])],.int .i64 0,.int .i64 0]
theorem prs2 : PureF Tryz.prog A 27 [.str tx2] ru2:=tells_pure (k:=300) (by kernel_rfl)
def tx3 : List UInt8:=[115,121,108,58,32,91,67,82,86,68,93,91,78,71,88,93,42,40,75,91,67,82,86,93,78,63,41,42,91,77,88,93,42,83,42,84,42,10,98,97,100,33,58,32,91,78,75,71,77,83,88,84,93,43]
def ru3 : D:=.tup [.sl false [.agg (.str [115,121,108] :: (rxD (gr3.getD 0 default)).cells ++ [.bool false]),.agg (.str [98,97,100] :: (rxD (gr3.getD 1 default)).cells ++ [.bool true])],.int .i64 0,.int .i64 0]
theorem prs3 : PureF Tryz.prog A 27 [.str tx3] ru3:=tells_pure (k:=300) (by kernel_rfl)
def tx4 : List UInt8:=[115,121,108,58,32,40,82,71,75,41,63,91,67,82,86,68,81,93,78,63,40,75,91,67,82,93,78,63,41,42,71,63,84,42,91,77,88,93,42,71,63,83,42,10,98,97,100,33,58,32,91,78,75,71,77,83,88,84,72,93,43]
def ru4 : D:=.tup [.sl false [.agg (.str [115,121,108] :: (rxD (gr4.getD 0 default)).cells ++ [.bool false]),.agg (.str [98,97,100] :: (rxD (gr4.getD 1 default)).cells ++ [.bool true])],.int .i64 0,.int .i64 0]
theorem prs4 : PureF Tryz.prog A 27 [.str tx4] ru4:=tells_pure (k:=300) (by kernel_rfl)
end Go.Proofs.W
end
section
namespace Go.Proofs.W
open Go Vm Go.Proofs.Zs25
def mx1 : List (List Int):=[[-1,1,1,2,2,2,2,1,2,2,1,-1,-1,2,1,2],[-1,-1,-1,3,4,5,6,-1,7,7,-1,-1,-1,8,-1,5],[-1,-1,-1,2,2,2,2,-1,2,2,-1,-1,-1,2,-1,2],[-1,-1,-1,-1,4,5,6,-1,7,7,-1,-1,-1,8,-1,5],[-1,1,-1,-1,7,5,6,1,9,9,-1,-1,-1,8,-1,5],[-1,-1,-1,-1,-1,5,6,-1,-1,-1,-1,-1,-1,-1,-1,5],[-1,-1,-1,-1,-1,-1,6,-1,-1,-1,-1,-1,-1,-1,-1,-1],[-1,-1,-1,-1,7,5,6,-1,7,7,-1,-1,-1,8,-1,5],[-1,-1,-1,-1,-1,5,6,-1,-1,-1,-1,-1,-1,8,-1,5],[-1,1,-1,-1,7,5,6,1,7,7,-1,-1,-1,8,-1,5]]
def ml1 : List Int:=[-1,0,1,0,0,0,0,0,0,0]
theorem sml1 : PureF Tryz.prog A 71 [dfaD ⟨nx1,rl1⟩] (dfaD ⟨mx1,ml1⟩):=tells_pure (k:=300) (by kernel_rfl)
def mx2 : List (List Int):=[[-1,1,2,3,3,3,3,4,3,3,5,-1,-1,3,5,3],[-1,-1,-1,6,7,8,9,-1,10,10,-1,-1,-1,11,-1,8],[-1,-1,-1,12,13,14,15,-1,-1,-1,-1,-1,-1,-1,-1,14],[-1,-1,-1,3,3,3,3,-1,3,3,-1,-1,-1,3,-1,3],[-1,-1,-1,6,16,8,9,-1,10,10,-1,-1,-1,11,-1,8],[-1,-1,-1,17,18,19,20,-1,-1,-1,-1,-1,-1,-1,-1,19],[-1,-1,-1,9,7,8,9,-1,10,10,-1,-1,-1,11,-1,8],[-1,1,-1,9,10,8,9,1,21,21,-1,-1,-1,11,-1,8],[-1,-1,-1,9,-1,8,9,-1,-1,-1,-1,-1,-1,-1,-1,8],[-1,-1,-1,-1,-1,-1,9,-1,-1,-1,-1,-1,-1,-1,-1,-1],[-1,-1,-1,9,10,8,9,-1,10,10,-1,-1,-1,11,-1,8],[-1,-1,-1,9,-1,8,9,-1,-1,-1,-1,-1,-1,11,-1,8],[-1,-1,-1,-1,13,14,15,-1,-1,-1,-1,-1,-1,-1,-1,14],[-1,2,-1,-1,-1,-1,-1,2,-1,-1,-1,-1,-1,-1,-1,-1],[-1,-1,-1,-1,-1,14,15,-1,-1,-1,-1,-1,-1,-1,-1,14],[-1,-1,-1,-1,-1,-1,15,-1,-1,-1,-1,-1,-1,-1,-1,-1],[-1,1,2,9,10,8,9,1,21,21,-1,-1,-1,11,-1,8],[-1,-1,-1,-1,18,19,20,-1,-1,-1,-1,-1,-1,-1,-1,19],[-1,5,-1,-1,-1,-1,-1,5,-1,-1,-1,-1,-1,-1,-1,-1],[-1,-1,-1,-1,-1,19,20,-1,-1,-1,-1,-1,-1,-1,-1,19],[-1,-1,-1,-1,-1,-1,20,-1,-1,-1,-1,-1,-1,-1,-1,-1],[-1,1,-1,9,10,8,9,1,10,10,-1,-1,-1,11,-1,8]]
def ml2 : List Int:=[-1,0,1,3,0,2,0,0,0,0,0,0,1,-1,1,1,0,2,-1,2,2,0]
def mx3 : List (List Int):=[[-1,1,1,2,-1,2,2,1,-1,-1,1,2,2,2,-1,2],[-1,-1,-1,1,-1,3,4,-1,-1,-1,-1,5,1,6,-1,1],[-1,-1,-1,2,-1,2,2,-1,-1,-1,-1,2,2,2,-1,2],[-1,-1,-1,-1,-1,3,4,-1,-1,-1,-1,-1,-1,6,-1,3],[-1,-1,-1,-1,-1,-1,4,-1,-1,-1,-1,-1,-1,6,-1,-1],[-1,7,7,-1,-1,-1,-1,7,-1,-1,-1,-1,-1,-1,-1,-1],[-1,-1,-1,-1,-1,-1,-1,-1,-1,-1,-1,-1,-1,6,-1,-1],[-1,-1,-1,8,-1,3,4,-1,-1,-1,-1,5,-1,6,-1,3],[-1,-1,-1,-1,-1,3,4,-1,-1,-1,-1,5,-1,6,-1,3]]
def ml3 : List Int:=[-1,0,1,0,0,-1,0,0,0]
theorem sml3 : PureF Tryz.prog A 71 [dfaD ⟨nx3,rl3⟩] (dfaD ⟨mx3,ml3⟩):=tells_pure (k:=300) (by kernel_rfl)
def mx4 : List (List Int):=[[-1,1,1,2,2,2,2,3,-1,-1,1,2,2,2,1,2],[-1,-1,-1,4,-1,5,6,-1,-1,-1,-1,7,8,8,-1,5],[-1,-1,-1,2,2,2,2,-1,-1,-1,-1,2,2,2,-1,2],[-1,-1,-1,4,-1,5,6,-1,-1,-1,-1,7,9,8,-1,5],[-1,-1,-1,-1,-1,5,6,-1,-1,-1,-1,7,8,8,-1,5],[-1,-1,-1,-1,-1,5,6,-1,-1,-1,-1,-1,6,-1,-1,5],[-1,-1,-1,-1,-1,-1,6,-1,-1,-1,-1,-1,-1,-1,-1,-1],[-1,1,-1,-1,-1,-1,-1,1,-1,-1,-1,-1,-1,-1,-1,-1],[-1,-1,-1,-1,-1,5,6,-1,-1,-1,-1,-1,6,8,-1,5],[-1,-1,-1,-1,-1,5,6,-1,-1,-1,-1,10,6,8,-1,5],[-1,1,1,-1,-1,-1,-1,1,-1,-1,1,-1,-1,-1,1,-1]]
def ml4 : List Int:=[-1,0,1,0,0,0,0,-1,0,0,-1]
theorem sml4 : PureF Tryz.prog A 71 [dfaD ⟨nx4,rl4⟩] (dfaD ⟨mx4,ml4⟩):=tells_pure (k:=300) (by kernel_rfl)
end Go.Proofs.W
end
section
namespace Vm
open Go
def tabF (bs : List D) : List (List D × D) → Option D
  | []=>none
  | (al,d) :: t=>if eqPlL bs al = true then some d else tabF bs t
def tabP (t : List (List D × D)) : List D → Heap → Option R:=fun args H=>(pures H args).bind fun (bs,H')=>(tabF bs t).map fun d=>.ok d (if flat d then H else H')
theorem tabF_mem {bs : List D} {d : D} : ∀ {t : List (List D × D)},tabF bs t = some d → (bs,d) ∈ t
  | [],h=>by cases h
  | (al,d') :: t,h=>by
    simp only [tabF] at h
    split at h
    · rename_i he
      cases h
      rw [eqPlL_eq he]
      exact List.mem_cons_self
    · exact List.mem_cons_of_mem _ (tabF_mem h)
theorem tab_calls [Base] {P : Program} {A : Ann} {f : FuncId} {t : List (List D × D)} {args : List D} {H : Heap} {r : R} (hmo : P.follows .mixedOrders = true) (hA : PrimOk P A) (hb : bodied P f = true) (hq : primQ A f = false) (hm : A.mode f = .pure) (hp : ∀ x ∈ t,PureF P A f x.1 x.2) (h : tabP t args H = some r)
    {ρ : Rho} {im : Im} {w : World} {vs : List Value} (hR : Rel ρ im H w) (hvs : RepA ρ H.length im vs args) : Calls P f ⟨vs⟩ w (OutR ρ im H w r):=by
  unfold tabP at h
  obtain ⟨⟨bs,H'⟩,h1,h2⟩:=bind_some h
  simp only at h2
  cases hf : tabF bs t with
  | none=>rw [hf] at h2;cases h2
  | some d=>
    rw [hf] at h2
    cases h2
    have hpd : PureF P A f bs d:=hp _ (tabF_mem hf)
    obtain ⟨k,res,h3,h4⟩:=hpd
    cases res with
    | pan d' H'=>exact h4.elim
    | ok d' Hc=>
      have hc : callD P A (runF P A k) f args H = some (.ok d (if flat d then H else H')):=by
        simp only [callD,hb,Bool.true_eq_false,if_false,(primQ_none hq).1,(primQ_none hq).2,hm,h1,Option.bind_some,h3]
        rw [if_neg (by decide),h4]
        rfl
      rcases callD_ok hA (runF_ok hmo hA k) hR hvs hc with ⟨_,hcalls⟩ | ⟨_,_,_,_,_,hx,_⟩
      · exact hcalls
      · rw [callFunc_run hb] at hx
        cases hx
end Vm
end
section
namespace Go.Proofs.W
open Go Vm Go.Proofs.Zs25
def al2 : List (List Int):=[[-1,1,2,3,3,3,3,4,3,3,5,-1,-1,3,5,3],[-1,-1,-1,6,7,8,9,-1,10,10,-1,-1,-1,11,-1,8],[-1,-1,-1,12,13,14,15,-1,-1,-1,-1,-1,-1,-1,-1,14],[-1,-1,-1,16,16,16,16,-1,16,16,-1,-1,-1,16,-1,16],[-1,-1,-1,6,17,8,9,-1,10,10,-1,-1,-1,11,-1,8],[-1,-1,-1,18,19,20,21,-1,-1,-1,-1,-1,-1,-1,-1,20],[-1,-1,-1,22,7,8,9,-1,10,10,-1,-1,-1,11,-1,8],[-1,1,-1,22,10,8,9,1,23,23,-1,-1,-1,11,-1,8],[-1,-1,-1,22,-1,8,9,-1,-1,-1,-1,-1,-1,-1,-1,8],[-1,-1,-1,-1,-1,-1,9,-1,-1,-1,-1,-1,-1,-1,-1,-1],[-1,-1,-1,22,10,8,9,-1,10,10,-1,-1,-1,11,-1,8],[-1,-1,-1,22,-1,8,9,-1,-1,-1,-1,-1,-1,11,-1,8],[-1,-1,-1,-1,13,14,15,-1,-1,-1,-1,-1,-1,-1,-1,14],[-1,24,-1,-1,-1,-1,-1,24,-1,-1,-1,-1,-1,-1,-1,-1],[-1,-1,-1,-1,-1,14,15,-1,-1,-1,-1,-1,-1,-1,-1,14],[-1,-1,-1,-1,-1,-1,15,-1,-1,-1,-1,-1,-1,-1,-1,-1],[-1,-1,-1,16,16,16,16,-1,16,16,-1,-1,-1,16,-1,16],[-1,1,2,22,10,8,9,1,23,23,-1,-1,-1,11,-1,8],[-1,-1,-1,-1,19,20,21,-1,-1,-1,-1,-1,-1,-1,-1,20],[-1,25,-1,-1,-1,-1,-1,25,-1,-1,-1,-1,-1,-1,-1,-1],[-1,-1,-1,-1,-1,20,21,-1,-1,-1,-1,-1,-1,-1,-1,20],[-1,-1,-1,-1,-1,-1,21,-1,-1,-1,-1,-1,-1,-1,-1,-1],[-1,-1,-1,-1,-1,-1,9,-1,-1,-1,-1,-1,-1,-1,-1,-1],[-1,1,-1,22,10,8,9,1,10,10,-1,-1,-1,11,-1,8],[-1,-1,-1,26,13,14,15,-1,-1,-1,-1,-1,-1,-1,-1,14],[-1,-1,-1,27,19,20,21,-1,-1,-1,-1,-1,-1,-1,-1,20],[-1,-1,-1,-1,13,14,15,-1,-1,-1,-1,-1,-1,-1,-1,14],[-1,-1,-1,-1,19,20,21,-1,-1,-1,-1,-1,-1,-1,-1,20]]
theorem alv2 : PureF Tryz.prog A 94 [dfaD ⟨nx2,rl2⟩] (dfaD ⟨al2,rl2⟩):=tells_pure (k:=300) (by kernel_rfl)
def cl2_0 : List Int:=[-1,0,1,3,0,2,0,0,0,0,0,0,1,-1,1,1,3,0,2,-1,2,2,0,0,1,2,1,2]
theorem rf2_0 : PureF Tryz.prog A 121 [dfaD ⟨al2,rl2⟩,isD cl2_0] (.tup [isD [0,1,2,3,1,4,1,5,6,7,1,8,9,10,9,11,3,12,13,14,13,15,7,5,2,4,9,13],.int .i64 16]):=tells_pure (k:=300) (by kernel_rfl)
def cl2_1 : List Int:=[0,1,2,3,1,4,1,5,6,7,1,8,9,10,9,11,3,12,13,14,13,15,7,5,2,4,9,13]
theorem rf2_1 : PureF Tryz.prog A 121 [dfaD ⟨al2,rl2⟩,isD cl2_1] (.tup [isD [0,1,2,3,4,5,6,7,8,9,10,11,12,13,14,15,3,16,17,18,19,20,9,21,2,5,12,17],.int .i64 22]):=tells_pure (k:=300) (by kernel_rfl)
def cl2_2 : List Int:=[0,1,2,3,4,5,6,7,8,9,10,11,12,13,14,15,3,16,17,18,19,20,9,21,2,5,12,17]
theorem rf2_2 : PureF Tryz.prog A 121 [dfaD ⟨al2,rl2⟩,isD cl2_2] (.tup [isD [0,1,2,3,4,5,6,7,8,9,10,11,12,13,14,15,3,16,17,18,19,20,9,21,2,5,12,17],.int .i64 22]):=tells_pure (k:=300) (by kernel_rfl)
def cl2 : List Int:=[0,1,2,3,4,5,6,7,8,9,10,11,12,13,14,15,3,16,17,18,19,20,9,21,2,5,12,17]
def rfT : List (List D × D):=[([dfaD ⟨al2,rl2⟩,isD cl2_0],.tup [isD [0,1,2,3,1,4,1,5,6,7,1,8,9,10,9,11,3,12,13,14,13,15,7,5,2,4,9,13],.int .i64 16]),([dfaD ⟨al2,rl2⟩,isD cl2_1],.tup [isD [0,1,2,3,4,5,6,7,8,9,10,11,12,13,14,15,3,16,17,18,19,20,9,21,2,5,12,17],.int .i64 22]),([dfaD ⟨al2,rl2⟩,isD cl2_2],.tup [isD [0,1,2,3,4,5,6,7,8,9,10,11,12,13,14,15,3,16,17,18,19,20,9,21,2,5,12,17],.int .i64 22])]
theorem rfT_ok : ∀ x ∈ rfT,PureF Tryz.prog A 121 x.1 x.2:=fun x hx=>by
  simp only [rfT,List.mem_cons,List.not_mem_nil,or_false] at hx
  rcases hx with rfl | rfl | rfl
  · exact rf2_0
  · exact rf2_1
  · exact rf2_2
def Aq1 : Ann:={ mode:=A.mode,prim:=fun f=>if f = 94 then some (tabP [([dfaD ⟨nx2,rl2⟩],dfaD ⟨al2,rl2⟩)]) else if f = 121 then some (tabP rfT) else A.prim f,fz:=A.fz,bl:=A.bl,rd:=A.rd }
theorem cls2 : PureF Tryz.prog Aq1 93 [dfaD ⟨nx2,rl2⟩] (isD cl2):=tells_pure (k:=300) (by kernel_rfl)
def Aq2 : Ann:={ mode:=A.mode,prim:=fun f=>if f = 94 then some (tabP [([dfaD ⟨nx2,rl2⟩],dfaD ⟨al2,rl2⟩)]) else if f = 93 then some (tabP [([dfaD ⟨nx2,rl2⟩],isD cl2)]) else A.prim f,fz:=A.fz,bl:=A.bl,rd:=A.rd }
theorem sml2 : PureF Tryz.prog Aq2 71 [dfaD ⟨nx2,rl2⟩] (dfaD ⟨mx2,ml2⟩):=tells_pure (k:=300) (by kernel_rfl)
end Go.Proofs.W
end
section
namespace Go.Proofs.W
open Go Vm Go.Proofs.Zs25
def dbT : List (List D × D):=[([rxsD gr1],.tup [dfaD ⟨nx1,rl1⟩,.int .i64 0]),([rxsD gr2],.tup [dfaD ⟨nx2,rl2⟩,.int .i64 0]),([rxsD gr3],.tup [dfaD ⟨nx3,rl3⟩,.int .i64 0]),([rxsD gr4],.tup [dfaD ⟨nx4,rl4⟩,.int .i64 0])]
def smT : List (List D × D):=[([dfaD ⟨nx1,rl1⟩],dfaD ⟨mx1,ml1⟩),([dfaD ⟨nx3,rl3⟩],dfaD ⟨mx3,ml3⟩),([dfaD ⟨nx4,rl4⟩],dfaD ⟨mx4,ml4⟩)]
def prT : List (List D × D):=[([.str tx1],ru1),([.str tx2],ru2),([.str tx3],ru3),([.str tx4],ru4)]
def B0 : Ann:={ mode:=A.mode,prim:=fun f=>if f = 70 then some (tabP dbT) else if f = 27 then some (tabP prT) else A.prim f,fz:=A.fz,bl:=A.bl,rd:=A.rd }
def smF (args : List D) (H : Heap) : Option R:=match tabP smT args H with
  | some r=>some r
  | none=>onlyP [dfaD ⟨nx2,rl2⟩] (dfaD ⟨mx2,ml2⟩) args H
def B : Ann:={ mode:=A.mode,prim:=fun f=>if f = 71 then some smF else B0.prim f,fz:=A.fz,bl:=A.bl,rd:=A.rd }
theorem B_fz (t : TypeId) : B.fz t = (t == 38):=rfl
attribute [go_sem] B_fz
theorem alive_run : okTrue (runF Tryz.prog B 300 8 [] []) = true:=by kernel_rfl
end Go.Proofs.W
end
section
namespace Go.Proofs.W
open Go Vm Go.Proofs.Zs25
theorem primAq1 [Base] (hB : ∃ m,Base.B 0 0 = some (.int .i64 m)) : PrimOk Tryz.prog Aq1:=by
  have h0:=primA hB
  refine ⟨h0.ext,h0.rd,fun f p h args H r hr ρ im w vs hR hvs=>?_⟩
  simp only [Aq1] at h
  split at h
  · rename_i e;subst e;cases h
    exact tab_calls mixed h0 bo94 rfl rfl (fun x hx=>by rw [List.mem_singleton.1 hx];exact alv2) hr hR hvs
  split at h
  · rename_i e;subst e;cases h
    exact tab_calls mixed h0 bo121 rfl rfl rfT_ok hr hR hvs
  · exact h0.ok f p h args H r hr ρ im w vs hR hvs
theorem primAq2 [Base] (hB : ∃ m,Base.B 0 0 = some (.int .i64 m)) : PrimOk Tryz.prog Aq2:=by
  have h0:=primA hB
  have h1:=primAq1 hB
  refine ⟨h0.ext,h0.rd,fun f p h args H r hr ρ im w vs hR hvs=>?_⟩
  simp only [Aq2] at h
  split at h
  · rename_i e;subst e;cases h
    exact tab_calls mixed h0 bo94 rfl rfl (fun x hx=>by rw [List.mem_singleton.1 hx];exact alv2) hr hR hvs
  split at h
  · rename_i e;subst e;cases h
    exact tab_calls mixed h1 bo93 rfl rfl (fun x hx=>by rw [List.mem_singleton.1 hx];exact cls2) hr hR hvs
  · exact h0.ok f p h args H r hr ρ im w vs hR hvs
theorem dbT_ok : ∀ x ∈ dbT,PureF Tryz.prog A 70 x.1 x.2:=fun x hx=>by
  simp only [dbT,List.mem_cons,List.not_mem_nil,or_false] at hx
  rcases hx with rfl | rfl | rfl | rfl
  · exact told1
  · exact told2
  · exact told3
  · exact told4
theorem prT_ok : ∀ x ∈ prT,PureF Tryz.prog A 27 x.1 x.2:=fun x hx=>by
  simp only [prT,List.mem_cons,List.not_mem_nil,or_false] at hx
  rcases hx with rfl | rfl | rfl | rfl
  · exact prs1
  · exact prs2
  · exact prs3
  · exact prs4
theorem smT_ok : ∀ x ∈ smT,PureF Tryz.prog A 71 x.1 x.2:=fun x hx=>by
  simp only [smT,List.mem_cons,List.not_mem_nil,or_false] at hx
  rcases hx with rfl | rfl | rfl
  · exact sml1
  · exact sml3
  · exact sml4
theorem primB0 [Base] (hB : ∃ m,Base.B 0 0 = some (.int .i64 m)) : PrimOk Tryz.prog B0:=by
  have h0:=primA hB
  refine ⟨h0.ext,h0.rd,fun f p h args H r hr ρ im w vs hR hvs=>?_⟩
  simp only [B0] at h
  split at h
  · rename_i e;subst e;cases h
    exact tab_calls mixed h0 bo70 rfl rfl dbT_ok hr hR hvs
  split at h
  · rename_i e;subst e;cases h
    exact tab_calls mixed h0 bo27 rfl rfl prT_ok hr hR hvs
  · exact h0.ok f p h args H r hr ρ im w vs hR hvs
theorem primB [Base] (hB : ∃ m,Base.B 0 0 = some (.int .i64 m)) : PrimOk Tryz.prog B:=by
  have h0:=primA hB
  have h2:=primAq2 hB
  have hb:=primB0 hB
  refine ⟨h0.ext,h0.rd,fun f p h args H r hr ρ im w vs hR hvs=>?_⟩
  simp only [B] at h
  split at h
  · rename_i e;subst e;cases h
    simp only [smF] at hr
    cases hq : tabP smT args H with
    | some r'=>
      rw [hq] at hr
      cases hr
      exact tab_calls mixed h0 bo71 rfl rfl smT_ok hq hR hvs
    | none=>
      rw [hq] at hr
      exact only_calls mixed h2 bo71 rfl rfl sml2 hr hR hvs
  · exact hb.ok f p h args H r hr ρ im w vs hR hvs
end Go.Proofs.W
end
section
namespace Go.Proofs.W
open Go Vm Go.Proofs.Zs25
def mdD (r : Int × List UInt8 × Bool × Int) : D:=.agg [.int .i64 r.1,.str r.2.1,.bool r.2.2.1,.int .i64 r.2.2.2]
def rowsL : List (Int × List UInt8 × Bool × Int):=[(2,[100,101,118,97],true,8),(2,[98,101,110,103],true,5),(2,[103,117,114,117],true,5),(2,[103,117,106,114],true,8),(2,[111,114,121,97],true,4),(2,[116,97,109,108],true,9),(2,[116,101,108,117],true,9),(2,[107,110,100,97],true,9),(2,[109,108,121,109],true,4),(1,[115,105,110,104],false,6),(1,[106,97,118,97],false,6),(1,[98,97,108,105],false,6),(1,[99,104,97,109],false,6),(1,[108,97,110,97],false,6),(1,[116,105,98,116],false,6),(3,[107,104,109,114],false,4),(4,[109,121,109,114],false,4),(5,[97,114,97,98],false,0),(5,[115,121,114,99],false,0),(5,[109,111,110,103],false,0),(5,[116,104,97,97],false,0),(6,[104,97,110,103],false,0)]
def ssD (l : List (List UInt8)) : D:=.sl false (l.map .str)
def tagsL : List (List UInt8):=[[100,101,118,97],[98,101,110,103],[103,117,114,117],[103,117,106,114],[111,114,121,97],[116,97,109,108],[116,101,108,117],[107,110,100,97],[109,108,121,109],[115,105,110,104],[106,97,118,97],[98,97,108,105],[99,104,97,109],[108,97,110,97],[116,105,98,116],[107,104,109,114],[109,121,109,114],[97,114,97,98],[115,121,114,99],[109,111,110,103],[116,104,97,97],[104,97,110,103]]
def stD (s : List (List UInt8) × Bool) : D:=.agg [ssD s.1,.bool s.2]
def stsD (l : List (List (List UInt8) × Bool)) : D:=.sl false (l.map stD)
def st1 : List (List (List UInt8) × Bool):=[([[108,111,99,108],[99,99,109,112],[110,117,107,116],[97,107,104,110]],false),([[114,112,104,102]],false),([[112,114,101,102]],false),([[114,107,114,102],[97,98,118,102],[98,108,119,102],[104,97,108,102],[112,115,116,102],[118,97,116,117],[99,106,99,116]],true),([[97,98,118,115],[98,108,119,115],[104,97,108,110],[112,114,101,115],[112,115,116,115],[108,105,103,97]],false)]
def st2 : List (List (List UInt8) × Bool):=[([[108,111,99,108],[99,99,109,112]],false),([[110,117,107,116]],false),([[97,107,104,110]],false),([[114,112,104,102]],false),([[114,107,114,102]],false),([[112,114,101,102]],false),([[98,108,119,102]],false),([[97,98,118,102]],false),([[104,97,108,102]],false),([[112,115,116,102]],false),([[118,97,116,117]],false),([[99,106,99,116]],true),([[112,114,101,115],[97,98,118,115],[98,108,119,115],[112,115,116,115],[104,97,108,110],[108,105,103,97]],false)]
def st3 : List (List (List UInt8) × Bool):=[([[108,111,99,108],[99,99,109,112]],false),([[112,114,101,102]],false),([[98,108,119,102],[97,98,118,102],[112,115,116,102],[99,102,97,114]],false),([[112,114,101,115],[97,98,118,115],[98,108,119,115],[112,115,116,115],[108,105,103,97]],false)]
def st4 : List (List (List UInt8) × Bool):=[([[108,111,99,108],[99,99,109,112]],false),([[114,112,104,102]],false),([[112,114,101,102]],false),([[98,108,119,102]],false),([[112,115,116,102]],true),([[112,114,101,115],[97,98,118,115],[98,108,119,115],[112,115,116,115],[108,105,103,97]],false)]
def st5 : List (List (List UInt8) × Bool):=[([[99,99,109,112],[108,111,99,108]],false),([[105,115,111,108]],false),([[102,105,110,97]],false),([[109,101,100,105]],false),([[105,110,105,116]],false),([[114,108,105,103]],false),([[99,97,108,116],[108,105,103,97]],false)]
def st6 : List (List (List UInt8) × Bool):=[([[99,99,109,112]],false),([[108,106,109,111],[118,106,109,111],[116,106,109,111]],false),([[108,105,103,97]],false)]
theorem gra1_ok : PureF Tryz.prog B 16 [.int .i64 1] (.str tx1):=tells_pure (k:=100) (by kernel_rfl)
theorem gra2_ok : PureF Tryz.prog B 16 [.int .i64 2] (.str tx2):=tells_pure (k:=100) (by kernel_rfl)
theorem gra3_ok : PureF Tryz.prog B 16 [.int .i64 3] (.str tx3):=tells_pure (k:=100) (by kernel_rfl)
theorem gra4_ok : PureF Tryz.prog B 16 [.int .i64 4] (.str tx4):=tells_pure (k:=100) (by kernel_rfl)
end Go.Proofs.W
end
section
namespace Vm
open Go
theorem pureF_one {P : Program} {A : Ann} {f : FuncId} {args : List D} {d d' : D} (h : PureF P A f args d) (g : PureF P A f args d') : d = d':=by
  obtain ⟨k,r,h1,h2⟩:=h
  obtain ⟨k',r',g1,g2⟩:=g
  have e1:=runF_le (Nat.le_max_left k k') _ _ _ _ h1
  have e2:=runF_le (Nat.le_max_right k k') _ _ _ _ g1
  rw [e1] at e2
  cases e2
  cases r with
  | pan d H=>exact h2.elim
  | ok d0 H=>
    have h3 : outPure H d0 = some d:=h2
    have g3 : outPure H d0 = some d':=g2
    rw [h3] at g3
    exact Option.some.inj g3
open Classical in
noncomputable def toldP (P : Program) (A : Ann) (f : FuncId) : List D → Heap → Option R:=fun args H=>(pures H args).bind fun (bs,H')=>
  if h : ∃ d,PureF P A f bs d then some (.ok (choose h) (if flat (choose h) then H else H')) else none
theorem told_calls [Base] {P : Program} {A : Ann} {f : FuncId} {args : List D} {H : Heap} {r : R} (hmo : P.follows .mixedOrders = true) (hA : PrimOk P A) (hb : bodied P f = true) (hq : primQ A f = false) (hm : A.mode f = .pure) (h : toldP P A f args H = some r)
    {ρ : Rho} {im : Im} {w : World} {vs : List Value} (hR : Rel ρ im H w) (hvs : RepA ρ H.length im vs args) : Calls P f ⟨vs⟩ w (OutR ρ im H w r):=by
  unfold toldP at h
  obtain ⟨⟨bs,H'⟩,h1,h2⟩:=bind_some h
  simp only at h2
  split at h2
  · rename_i he
    cases h2
    have hpd:=Classical.choose_spec he
    generalize Classical.choose he = d at hpd
    obtain ⟨k,res,h3,h4⟩:=hpd
    cases res with
    | pan d' H'=>exact h4.elim
    | ok d' Hc=>
      have hc : callD P A (runF P A k) f args H = some (.ok d (if flat d then H else H')):=by
        simp only [callD,hb,Bool.true_eq_false,if_false,(primQ_none hq).1,(primQ_none hq).2,hm,h1,Option.bind_some,h3]
        rw [if_neg (by decide),h4]
        rfl
      rcases callD_ok hA (runF_ok hmo hA k) hR hvs hc with ⟨_,hcalls⟩ | ⟨_,_,_,_,_,hx,_⟩
      · exact hcalls
      · rw [callFunc_run hb] at hx
        cases hx
  · cases h2
theorem told_at {P : Program} {A : Ann} {f : FuncId} {args bs : List D} {H H' : Heap} {d : D} (ha : pures H args = some (bs,H')) (h : PureF P A f bs d) : toldP P A f args H = some (.ok d (if flat d then H else H')):=by
  have he : ∃ d,PureF P A f bs d:=⟨d,h⟩
  unfold toldP
  rw [ha,Option.bind_some]
  simp only
  rw [dif_pos he,pureF_one (Classical.choose_spec he) h]
theorem evB_told {P : Program} {A B : Ann} {f : FuncId} {args : List D} {d : D} {H : Heap} {K Kp : D → Heap → Prop} (hb : bodied P f = true) (hp : B.prim f = some (toldP P A f)) (h0 : B.rd f = none) (ha : stripL args = some args) (h : PureF P A f args d) (k : PP (K d H)) : EvB P B f args H K Kp:=
  evB_prim hb hp (told_at (pures_strip ha) h) (by rw [ite_self];exact k) h0
end Vm
end
section
namespace Go.Proofs.W
open Go Vm Go.Proofs.Zs25
def hdD : D → D
  | .tup (d :: _)=>d
  | d=>d
def ofT : List (List D × D):=rowsL.map (fun r=>([.str r.2.1],mdD r)) ++ rowsL.map (fun r=>([.str (r.2.1 ++ [120])],mdD (0,r.2.1 ++ [120],false,0)))
def stT : List (List D × D):=[([.int .i64 1],stsD st1),([.int .i64 2],stsD st2),([.int .i64 3],stsD st3),([.int .i64 4],stsD st4),([.int .i64 5],stsD st5),([.int .i64 6],stsD st6)]
def rrT : List (List D × D):=[([hdD ru1],.bool true),([hdD ru2],.bool true),([hdD ru3],.bool true),([hdD ru4],.bool true)]
def C : Ann:={ mode:=B.mode,prim:=fun f=>if f = 8 then some (tabP [([],.bool true)]) else if f = 13 then some (tabP [([],ssD tagsL)]) else if f = 10 then some (tabP ofT) else if f = 14 then some (tabP stT) else if f = 53 then some (tabP rrT) else B.prim f,fz:=B.fz,bl:=B.bl,rd:=B.rd }
theorem rr1 : PureF Tryz.prog B 53 [hdD ru1] (.bool true):=tells_pure (k:=300) (by kernel_rfl)
theorem rr2 : PureF Tryz.prog B 53 [hdD ru2] (.bool true):=tells_pure (k:=300) (by kernel_rfl)
theorem rr3 : PureF Tryz.prog B 53 [hdD ru3] (.bool true):=tells_pure (k:=300) (by kernel_rfl)
theorem rr4 : PureF Tryz.prog B 53 [hdD ru4] (.bool true):=tells_pure (k:=300) (by kernel_rfl)
end Go.Proofs.W
end
section
namespace Go.Proofs.W
open Go Vm Go.Proofs.Zs25
theorem alive_B : PureF Tryz.prog B 8 [] (.bool true):=by
  have h:=alive_run
  cases hr : runF Tryz.prog B 300 8 [] [] with
  | none=>rw [hr] at h;cases h
  | some r=>
    rw [hr] at h
    refine ⟨300,r,hr,?_⟩
    cases r with
    | pan d H=>cases h
    | ok d H=>
      cases d <;> simp only [okTrue] at h <;> try (cases h;done)
      subst h;rfl
theorem rrT_ok : ∀ x ∈ rrT,PureF Tryz.prog B 53 x.1 x.2:=fun x hx=>by
  simp only [rrT,List.mem_cons,List.not_mem_nil,or_false] at hx
  rcases hx with rfl | rfl | rfl | rfl
  · exact rr1
  · exact rr2
  · exact rr3
  · exact rr4
end Go.Proofs.W
end
section
namespace Go.Proofs.W
open Go Vm Go.Proofs.Zs25
structure Pc where
  f : Int
  t : Int
  r : Int
def pcD (p : Pc) : D:=.agg [.int .i64 p.f,.int .i64 p.t,.int .i64 p.r]
def pcsD (l : List Pc) : D:=.sl false (l.map pcD)
theorem strip_pc (p : Pc) : strip (pcD p) = some (pcD p):=rfl
theorem strip_pcs (l : List Pc) : stripL (l.map pcD) = some (l.map pcD):=by
  induction l with
  | nil=>rfl
  | cons q r ih=>simp [stripL,ih,strip_pc]
theorem strip_pcsD (l : List Pc) : strip (pcsD l) = some (pcsD l):=by simp [pcsD,strip,strip_pcs]
theorem headPcs (l : List Pc) : headSize 3 (l.map pcD) = true:=by cases l <;> rfl
theorem app_pc {m : Nat} {d : D} {H : Heap} {l : List Pc} (h : VecAt m d H (l.map pcD)) (x : Pc) (hl : l.length ≤ 1000000) : ∃ d' H',appendD Tryz.prog 64 (H ++ [Ob.arr [.agg [.int .i64 x.f,.int .i64 x.t,.int .i64 x.r]]]) d (.vec H.length 0 1) = some (d',H') ∧ VecAt m d' H' ((l ++ [x]).map pcD) ∧ Same m H H':=by
  have:=VecAt.append el64 sz103 by103 zr103 rfl (by decide) h (q:=pcD x) rfl rfl (headPcs l) (by simp;omega)
  simp only [List.map_append,List.map_cons,List.map_nil]
  exact this
theorem pc_get {l : List Pc} {i : Nat} (h : i < l.length) : (l.map pcD)[i]? = some (.agg [.int .i64 l[i].f,.int .i64 l[i].t,.int .i64 l[i].r]):=by simp [h,pcD]
def cutL (d : Dfa) (w : List Int) : Nat → Int → List Pc
  | 0,_=>[]
  | n + 1,a=>if a < w.length then ⟨a,if (longD d w a).1 < 0 then a + 1 else (longD d w a).1,(longD d w a).2⟩ :: cutL d w n (if (longD d w a).1 < 0 then a + 1 else (longD d w a).1) else []
theorem lg_cases (d : Dfa) : ∀ (w : List Int) (a p : Int) (er : Int × Int),lgD d a p w er = er ∨ (p < (lgD d a p w er).1 ∧ (lgD d a p w er).1 ≤ p + w.length ∧ 0 ≤ (lgD d a p w er).2)
  | [],a,p,er=>.inl rfl
  | c :: w,a,p,er=>by
    rw [lgD]
    split
    · exact .inl rfl
    · rcases lg_cases d w (nextD d a c) (p + 1) (if 0 ≤ ruleAt d (nextD d a c) then (p + 1,ruleAt d (nextD d a c)) else er) with h | ⟨h1,h2,h3⟩
      · rw [h]
        split
        · refine .inr ⟨by simp;omega,by simp only [List.length_cons];omega,by assumption⟩
        · exact .inl rfl
      · exact .inr ⟨by omega,by simp only [List.length_cons];omega,h3⟩
theorem long_cases (d : Dfa) (w : List Int) (f : Int) (h0 : 0 ≤ f) (h1 : f ≤ w.length) : ((longD d w f).1 = -1 ∧ (longD d w f).2 = -1) ∨ (f < (longD d w f).1 ∧ (longD d w f).1 ≤ w.length):=by
  unfold longD
  split
  · rcases lg_cases d (w.drop f.toNat) 0 f (-1,-1) with h | ⟨h2,h3,_⟩
    · rw [h];exact .inl ⟨rfl,rfl⟩
    · rw [List.length_drop] at h3
      exact .inr ⟨h2,by omega⟩
  · exact .inl ⟨rfl,rfl⟩
theorem scut_ok (d : Dfa) (w : List Int) (ht : tyM d) (hs : d.next.length ≤ 1000000) (hs2 : d.rule.length ≤ 9223372036854775807) (hw : w.length ≤ 100000) : PureF Tryz.prog A 40 [dfaD d,isD w] (pcsD (if rightD d then cutL d w w.length 0 else [])):=by
  have a1:=dfa_noTup d
  have a2:=dfa_cells d
  have a3:=dfa_aggQ d
  have ew : isD w = .sl false (w.map (.int .i64)):=rfl
  refine evF_inB (n:=36) (rs:=[.tmp 4]) Tryz.func40 rfl rfl rfl rfl rfl rfl ?_
  repeat' (first | apply wz1|apply wz2|apply wz3|apply wz4|apply wz5|apply wz6 | simp -dsimp (maxSteps:=999999) (disch:=omega) only[go_sem,simprocAttr, *] | ((first | refine wz8 ?_ ?_|refine wz9 ?_ ?_|refine wz7 ?_ ?_)<;>intro hh <;> (try replace hh:=vqs hh) <;> (try (exfalso;first | exact hh | omega))))
  refine evB_plain bo57 rfl rfl (stripD d) (dright_ok d ht hs hs2) ?_
  cases hr : rightD d with
  | false=>
    repeat' (first | apply wz1|apply wz2|apply wz3|apply wz4|apply wz5|apply wz6 | simp -dsimp (maxSteps:=999999) (disch:=omega) only[go_sem,simprocAttr, *,pcsD] | ((first | refine wz8 (fun hh=>?_) (fun hh=>?_) | refine wz9 (fun hh=>?_) (fun hh=>?_) | refine wpB_cond (by simp -dsimp (maxSteps:=999999) (disch:=omega) only[go_sem,simprocAttr, *,pcsD];exact rfl) (fun hh=>?_) (fun hh=>?_)) <;> (try replace hh:=vqs hh) <;> (try (exfalso;first | exact hh | omega))))
    rfl
  | true=>
    have hl:=right_len hr
    rw [if_pos rfl]
    generalize hG : cutL d w w.length 0 = G
    replace hG : Hid (G = [] ++ cutL d w w.length 0):=hG.symm
    repeat' (first | apply wz1|apply wz2|apply wz3|apply wz4|apply wz5|apply wz6 | simp -dsimp (maxSteps:=999999) (disch:=omega) only[go_sem,simprocAttr, *] | ((first | refine wz8 ?_ ?_|refine wz9 ?_ ?_|refine wz7 ?_ ?_)<;>intro hh <;> (try replace hh:=vqs hh) <;> (try (exfalso;first | exact hh | omega))))
    refine wpB_loop (fun e H=>∃ (n : Nat) (a : Int) (out : List Pc),0 ≤ a ∧ a ≤ w.length ∧ w.length ≤ a + n ∧ out.length ≤ a ∧ hget H 0 = .arr [dfaD d] ∧ e 1 = isD w ∧ e 2 = .ptr 0 0 0 ∧ VecAt 1 (e 5) H (out.map pcD) ∧ e 6 = .int .i64 a ∧ G = out ++ cutL d w n a) (fun e H=>w.length - natOf (e 6)) ?_ ?_
    · exact ⟨w.length,0,[],by omega,by omega,by omega,by simp,rfl,gs,gs,VecAt.nil (by simp),gs,hG⟩
    clear hG
    rintro e H ⟨n,a,out,ha0,ha1,hn,ho,h0,e1,e2,hv,e6,hG⟩ R hR
    by_cases hb : a < w.length
    case neg=>
      have hz : cutL d w n a = []:=by cases n <;> simp [cutL,hb]
      rw [hz,List.append_nil] at hG
      subst hG
      repeat' (first | apply wz1|apply wz2|apply wz3|apply wz4|apply wz5|apply wz6 | simp -dsimp (maxSteps:=999999) (disch:=omega) only[go_sem,simprocAttr, *] | ((first | refine wz8 ?_ ?_|refine wz9 ?_ ?_|refine wz7 ?_ ?_)<;>intro hh <;> (try replace hh:=vqs hh) <;> (try (exfalso;first | exact hh | omega))))
      exact hv.out (strip_pcs _)
    obtain ⟨n,rfl⟩ : ∃ x,n = x + 1:=⟨n - 1,by omega⟩
    rw [cutL,if_pos hb] at hG
    have hlo:=dlong_ok d w a ht hs hs2 (by omega)
    have hlc:=long_cases d w a ha0 ha1
    generalize longD d w a = x at hlo hlc hG
    obtain ⟨x,y⟩:=x
    simp only at hlc hG
    replace hG : Hid (G = out ++ (⟨a,if x < 0 then a + 1 else x,y⟩ :: cutL d w n (if x < 0 then a + 1 else x))):=hG
    have hst:=stripDwi d w a
    repeat' (first | apply wz1|apply wz2|apply wz3|apply wz4|apply wz5|apply wz6 | simp -dsimp (maxSteps:=999999) (disch:=omega) only[go_sem,simprocAttr, *] | ((first | refine wz8 ?_ ?_|refine wz9 ?_ ?_|refine wz7 ?_ ?_)<;>intro hh <;> (try replace hh:=vqs hh) <;> (try (exfalso;first | exact hh | omega))))
    refine evB_plain bo58 rfl rfl hst hlo ?_
    by_cases hx : x < 0
    · unfold Hid at hG
      rw [if_pos hx] at hG
      obtain ⟨d',H',hap,hv',hsm⟩:=app_pc hv ⟨a,a + 1,y⟩ (by omega)
      have h0':=hsm.2 0 (by omega)
      rw [h0] at h0'
      replace hG : Hid (G = out ++ (⟨a,a + 1,y⟩ :: cutL d w n (a + 1))):=hG
      repeat' (first | apply wz1|apply wz2|apply wz3|apply wz4|apply wz5|apply wz6 | simp -dsimp (maxSteps:=999999) (disch:=omega) only[go_sem,simprocAttr, *,pairD] | ((first | refine wz8 (fun hh=>?_) (fun hh=>?_) | refine wz9 (fun hh=>?_) (fun hh=>?_) | refine wpB_cond (by simp -dsimp (maxSteps:=999999) (disch:=omega) only[go_sem,simprocAttr, *,pairD];exact rfl) (fun hh=>?_) (fun hh=>?_)) <;> (try replace hh:=vqs hh) <;> (try (exfalso;first | exact hh | omega))))
      refine hR _ _ ⟨n,a + 1,out ++ [⟨a,a + 1,y⟩],by omega,by omega,by omega,by simp;omega,h0',gs,gs,?_,gs,?_⟩ ?_
      · show VecAt 1 d' H' _
        exact hv'
      · rw [show G = _ from hG];simp
      · simp -dsimp (maxSteps:=999999) (disch:=omega) only[go_sem,simprocAttr, *,natOf_int]
    · unfold Hid at hG
      rw [if_neg hx] at hG
      obtain ⟨d',H',hap,hv',hsm⟩:=app_pc hv ⟨a,x,y⟩ (by omega)
      have h0':=hsm.2 0 (by omega)
      rw [h0] at h0'
      replace hG : Hid (G = out ++ (⟨a,x,y⟩ :: cutL d w n x)):=hG
      have hx1 : a < x:=by omega
      have hx2 : x ≤ w.length:=by omega
      clear hlc
      repeat' (first | apply wz1|apply wz2|apply wz3|apply wz4|apply wz5|apply wz6 | simp -dsimp (maxSteps:=999999) (disch:=omega) only[go_sem,simprocAttr, *,pairD] | ((first | refine wz8 (fun hh=>?_) (fun hh=>?_) | refine wz9 (fun hh=>?_) (fun hh=>?_) | refine wpB_cond (by simp -dsimp (maxSteps:=999999) (disch:=omega) only[go_sem,simprocAttr, *,pairD];exact rfl) (fun hh=>?_) (fun hh=>?_)) <;> (try replace hh:=vqs hh) <;> (try (exfalso;first | exact hh | omega))))
      refine hR _ _ ⟨n,x,out ++ [⟨a,x,y⟩],by omega,by omega,by omega,by simp;omega,h0',gs,gs,?_,gs,?_⟩ ?_
      · show VecAt 1 d' H' _
        exact hv'
      · rw [show G = _ from hG];simp
      · simp -dsimp (maxSteps:=999999) (disch:=omega) only[go_sem,simprocAttr, *,natOf_int]
end Go.Proofs.W
end
section
namespace Go.Proofs.W
open Go Vm Go.Proofs.Zs25
theorem eqPc (xs ys : List D) : eqD Tryz.prog 103 (.agg xs) (.agg ys) = eqK [0,0,0] xs ys:=by kernel_rfl
attribute [go_sem] eqPc eqK eqK1
theorem same_ok (a b : List Pc) (ha : a.length ≤ 100000) : PureF Tryz.prog A 24 [pcsD a,pcsD a] (.bool true):=by
  refine evF_inB (n:=26) (rs:=[.tmp 4]) Tryz.func24 rfl rfl rfl rfl rfl rfl ?_
  repeat' (first | apply wz1|apply wz2|apply wz3|apply wz4|apply wz5|apply wz6 | simp -dsimp (maxSteps:=999999) (disch:=omega) only[go_sem,simprocAttr, *,pcsD] | ((first | refine wz8 (fun hh=>?_) (fun hh=>?_) | refine wz9 (fun hh=>?_) (fun hh=>?_) | refine wpB_cond (by simp -dsimp (maxSteps:=999999) (disch:=omega) only[go_sem,simprocAttr, *,pcsD];exact rfl) (fun hh=>?_) (fun hh=>?_)) <;> (try replace hh:=vqs hh) <;> (try (exfalso;first | exact hh | omega))))
  refine wpB_loop (fun e H=>∃ (j : Nat),j ≤ a.length ∧ e 0 = .sl false (a.map pcD) ∧ e 1 = .sl false (a.map pcD) ∧ e 5 = .int .i64 j) (fun e H=>a.length - natOf (e 5)) ?_ ?_
  · exact ⟨0,by omega,gs,gs,gs⟩
  rintro e H ⟨j,hj,e0,e1,e5⟩ R hR
  by_cases hb : j < a.length
  case neg=>repeat' (first | apply wz1|apply wz2|apply wz3|apply wz4|apply wz5|apply wz6 | simp -dsimp (maxSteps:=999999) (disch:=omega) only[go_sem,simprocAttr, *] | ((first | refine wz8 ?_ ?_|refine wz9 ?_ ?_|refine wz7 ?_ ?_)<;>intro hh <;> (try replace hh:=vqs hh) <;> (try (exfalso;first | exact hh | omega))))
  have hc:=pc_get hb
  generalize a[j] = p at hc
  obtain ⟨pf,pt,pr⟩:=p
  simp only at hc
  have q1 : (pf == pf) = true:=by simp
  have q2 : (pt == pt) = true:=by simp
  have q3 : (pr == pr) = true:=by simp
  repeat' (first | apply wz1|apply wz2|apply wz3|apply wz4|apply wz5|apply wz6 | simp -dsimp (maxSteps:=999999) (disch:=omega) only[go_sem,simprocAttr, *] | ((first | refine wz8 ?_ ?_|refine wz9 ?_ ?_|refine wz7 ?_ ?_)<;>intro hh <;> (try replace hh:=vqs hh) <;> (try (exfalso;first | exact hh | omega))))
  refine wpB_regionXL (prs:=[]) (by kernel_rfl) rfl (by kernel_rfl) ?_;simp -dsimp (maxSteps:=999999) (disch:=omega) only[go_sem,simprocAttr, *]
  repeat' (first | apply wz1|apply wz2|apply wz3|apply wz4|apply wz5|apply wz6 | simp -dsimp (maxSteps:=999999) (disch:=omega) only[go_sem,simprocAttr, *] | ((first | refine wz8 ?_ ?_|refine wz9 ?_ ?_|refine wz7 ?_ ?_)<;>intro hh <;> (try replace hh:=vqs hh) <;> (try (exfalso;first | exact hh | omega))))
  refine hR _ _ ⟨j + 1,by omega,gs,gs,gs⟩ ?_
  simp -dsimp (maxSteps:=999999) (disch:=omega) only[go_sem,simprocAttr, *,natOf_int]
theorem app_keep {t : TypeId} {H H' : Heap} {s x d' : D} {ys : List D} {k : Nat} (h : appendD Tryz.prog t H s x = some (d',H')) (hx : addedD H x = some (ys,H)) (hs : ∀ r ∈ objsD s,r ≠ k) (hk : k < H.length) : hget H' k = hget H k:=by
  unfold appendD at h
  obtain ⟨e,_,h⟩:=bind_some h
  obtain ⟨n,_,h⟩:=bind_some h
  obtain ⟨w,_,h⟩:=bind_some h
  obtain ⟨z,_,h⟩:=bind_some h
  rw [hx] at h
  simp only [Option.bind_some] at h
  split at h
  · cases h
  split at h
  · split at h <;> cases h <;> rfl
  split at h
  · cases h
  split at h
  · split at h
    · cases h
      exact hget_app_lt hk
    · cases h
  · split at h
    · split at h
      · cases h
        rw [hget_app_lt (by simpa using hk),hget_set_ne (hs _ (by simp [objsD]))]
      · cases h
    · cases h
  · cases h
theorem added_pc {H : Heap} (p : Pc) : addedD (H ++ [Ob.arr [pcD p]]) (.vec H.length 0 1) = some ([pcD p],H ++ [Ob.arr [pcD p]]):=by
  have : pures (H ++ [Ob.arr [pcD p]]) [pcD p] = some ([pcD p],H ++ [Ob.arr [pcD p]]):=pures_strip (strip_pcs [p])
  simp [addedD,elems,hget_app0,hget_cons0,this,puresA,nilE_strip (strip_pc p)]
end Go.Proofs.W
end
section
namespace Go.Proofs.W
open Go Vm Go.Proofs.Zs25
structure Rule where
  nm : List UInt8
  rx : Rx
  br : Bool
def ruleD (r : Rule) : D:=.agg [.str r.nm,.int .u8 r.rx.k,.int .u16 r.rx.s,.sl false (rxDs r.rx.kids),.bool r.br]
theorem zr_rule : zeroT Tryz.prog 85 = some (.agg [.str [],.int .u8 0,.int .u16 0,.sl true [],.bool false]):=by kernel_rfl
theorem rule_cells (r : Rule) : (ruleD r).cells.length = 5:=rfl
theorem strip_rule (r : Rule) : strip (ruleD r) = some (ruleD r):=by simp [ruleD,strip,stripL,strip_rxs]
theorem strip_rules (l : List Rule) : stripL (l.map ruleD) = some (l.map ruleD):=by
  induction l with
  | nil=>rfl
  | cons r l ih=>simp [stripL,ih,strip_rule]
theorem rule_rx (r : Rule) : rxD r.rx = .agg [.int .u8 r.rx.k,.int .u16 r.rx.s,.sl false (rxDs r.rx.kids)]:=by cases r with | mk a x b=>cases x;rfl
def rulesD (l : List Rule) : D:=.sl false (l.map ruleD)
theorem strip_rulesD (l : List Rule) : strip (rulesD l) = some (rulesD l):=by simp [rulesD,strip,strip_rules]
theorem rule_get {l : List Rule} {j : Nat} (h : j < l.length) : (l.map ruleD)[j]? = some (.agg [.str l[j].nm,.int .u8 l[j].rx.k,.int .u16 l[j].rx.s,.sl false (rxDs l[j].rx.kids),.bool l[j].br]):=by simp [h,ruleD]
end Go.Proofs.W
end
section
namespace Go.Proofs.W
open Go Vm Go.Proofs.Zs25
theorem VecAt.keep {m : Nat} {d : D} {H H' : Heap} {xs : List D} (h : VecAt m d H xs) (s : Same H.length H H') : VecAt m d H' xs:=by
  obtain ⟨h1,h2⟩:=h
  refine ⟨Nat.le_trans h1 s.1,?_⟩
  rcases h2 with h2 | ⟨hx,r,a,b,c,g⟩
  · exact .inl h2
  · have:=s.1
    exact .inr ⟨hx,r,a,by omega,c,by rw [s.2 r b];exact g⟩
def innW (E : List Bool) (k a : Int) : Nat → Int × Int → Int × Int
  | 0,s=>s
  | m + 1,s=>innW E k a m (if E.getD (m + 1) false = true ∧ (s.2 < 0 ∨ s.1 < a + (m + 1 : Nat)) then (a + (m + 1 : Nat),k) else s)
def ruleW (u : List Int) (a : Int) : List Rule → Int → Int × Int → Int × Int
  | [],_,s=>s
  | r :: l,k,s=>ruleW u a l (k + 1) (innW (endsR u r.rx (startB u.length)) k a u.length s)
def wordsL (l : List Rule) (w : List Int) : Nat → Int → List Pc
  | 0,_=>[]
  | n + 1,a=>if a < w.length then ⟨a,(ruleW (w.drop a.toNat) a l 0 (a + 1,-1)).1,(ruleW (w.drop a.toNat) a l 0 (a + 1,-1)).2⟩ :: wordsL l w n (ruleW (w.drop a.toNat) a l 0 (a + 1,-1)).1 else []
theorem innW_rng {E : List Bool} {k a b : Int} : ∀ (m : Nat) (s : Int × Int),a < s.1 ∧ s.1 ≤ b → a + m ≤ b → a < (innW E k a m s).1 ∧ (innW E k a m s).1 ≤ b
  | 0,s,h,_=>h
  | m + 1,s,h,hb=>by
    rw [innW]
    refine innW_rng m _ ?_ (by omega)
    split
    · exact ⟨by simp only;omega,by simp only;omega⟩
    · exact h
theorem ruleW_rng {u : List Int} {a b : Int} (hb : a + u.length ≤ b) : ∀ (l : List Rule) (k : Int) (s : Int × Int),a < s.1 ∧ s.1 ≤ b → a < (ruleW u a l k s).1 ∧ (ruleW u a l k s).1 ≤ b
  | [],k,s,h=>h
  | r :: l,k,s,h=>by
    rw [ruleW]
    exact ruleW_rng hb l (k + 1) _ (innW_rng _ _ h hb)
theorem words_ok (l : List Rule) (hl : l.length ≤ 1000) (ho : ∀ r ∈ l,okR r.rx ∧ shapesR r.rx = true) (w : List Int) (hw : w.length ≤ 1000) : PureF Tryz.prog A 25 [rulesD l,isD w] (pcsD (wordsL l w w.length 0)):=by
  have ew : isD w = .sl false (w.map (.int .i64)):=rfl
  refine evF_inB (n:=82) (rs:=[.tmp 4]) Tryz.func25 rfl rfl rfl rfl rfl rfl ?_
  generalize hG : wordsL l w w.length 0 = G
  replace hG : Hid (G = [] ++ wordsL l w w.length 0):=hG.symm
  repeat' (first | apply wz1|apply wz2|apply wz3|apply wz4|apply wz5|apply wz6 | simp -dsimp (maxSteps:=999999) (disch:=omega) only[go_sem,simprocAttr, *,rulesD] | ((first | refine wz8 (fun hh=>?_) (fun hh=>?_) | refine wz9 (fun hh=>?_) (fun hh=>?_) | refine wpB_cond (by simp -dsimp (maxSteps:=999999) (disch:=omega) only[go_sem,simprocAttr, *,rulesD];exact rfl) (fun hh=>?_) (fun hh=>?_)) <;> (try replace hh:=vqs hh) <;> (try (exfalso;first | exact hh | omega))))
  refine wpB_loop (fun e H=>∃ (n : Nat) (a : Int) (out : List Pc),0 ≤ a ∧ a ≤ w.length ∧ w.length ≤ a + n ∧ out.length ≤ a ∧ e 0 = .sl false (l.map ruleD) ∧ e 1 = isD w ∧ VecAt 0 (e 5) H (out.map pcD) ∧ e 6 = .int .i64 a ∧ G = out ++ wordsL l w n a) (fun e H=>w.length - natOf (e 6)) ?_ ?_
  · exact ⟨w.length,0,[],by omega,by omega,by omega,by simp,gs,gs,VecAt.nil (by simp),gs,hG⟩
  clear hG
  rintro e H ⟨n,a,out,ha0,ha1,hn,ho1,e0,e1,hv,e6,hG⟩ R hR
  by_cases hb : a < w.length
  case neg=>
    have hz : wordsL l w n a = []:=by cases n <;> simp [wordsL,hb]
    rw [hz,List.append_nil] at hG
    subst hG
    repeat' (first | apply wz1|apply wz2|apply wz3|apply wz4|apply wz5|apply wz6 | simp -dsimp (maxSteps:=999999) (disch:=omega) only[go_sem,simprocAttr, *] | ((first | refine wz8 ?_ ?_|refine wz9 ?_ ?_|refine wz7 ?_ ?_)<;>intro hh <;> (try replace hh:=vqs hh) <;> (try (exfalso;first | exact hh | omega))))
    exact hv.out (strip_pcs _)
  obtain ⟨n,rfl⟩ : ∃ x,n = x + 1:=⟨n - 1,by omega⟩
  rw [wordsL,if_pos hb] at hG
  obtain ⟨u,hu⟩ : ∃ u,u = w.drop a.toNat:=⟨_,rfl⟩
  have hul : (u.length : Int) = w.length - a:=by rw [hu,List.length_drop];omega
  have hrng:=ruleW_rng (u:=u) (a:=a) (b:=w.length) (by omega) l 0 (a + 1,-1) ⟨by simp only;omega,by simp only;omega⟩
  rw [← hu] at hG
  generalize hS : ruleW u a l 0 (a + 1,-1) = S at hG hrng
  obtain ⟨st,sr⟩:=S
  simp only at hrng
  replace hG : Hid (G = out ++ (⟨a,st,sr⟩ :: wordsL l w n st)):=hG
  have hS0 : Hid ((st,sr) = ruleW u a (l.drop 0) (0 : Nat) (a + 1,-1)):=hS.symm
  clear hS
  have hsl : List.drop a.toNat (List.take w.length (w.map (D.int .i64))) = u.map (D.int .i64):=by rw [← List.map_take,List.take_length,← List.map_drop,hu]
  have hhd:=headInts w
  clear hu
  obtain ⟨d5,hd5⟩ : ∃ d,d = e 5:=⟨_,rfl⟩
  rw [← hd5] at hv
  have e5 : e 5 = d5:=hd5.symm
  clear hd5
  repeat' (first | apply wz1|apply wz2|apply wz3|apply wz4|apply wz5|apply wz6 | simp -dsimp (maxSteps:=999999) (disch:=omega) only[go_sem,simprocAttr, *] | ((first | refine wz8 ?_ ?_|refine wz9 ?_ ?_|refine wz7 ?_ ?_)<;>intro hh <;> (try replace hh:=vqs hh) <;> (try (exfalso;first | exact hh | omega))))
  refine wpB_loop (fun e Hx=>∃ (j : Nat) (t r : Int),j ≤ l.length ∧ Same H.length H Hx ∧ hget Hx H.length = .arr [.agg [.int .i64 a,.int .i64 t,.int .i64 r]] ∧ H.length < Hx.length ∧ e 0 = .sl false (l.map ruleD) ∧ e 1 = isD w ∧ e 5 = d5 ∧ e 6 = .int .i64 a ∧ e 7 = .ptr H.length 0 0 ∧ e 8 = .int .i64 j ∧ (st,sr) = ruleW u a (l.drop j) j (t,r) ∧ a < t ∧ t ≤ w.length) (fun e H=>l.length - natOf (e 8)) ?_ ?_
  · refine ⟨0,a + 1,-1,by omega,⟨by simp,fun k hk=>?_⟩,?_,by simp,gs,gs,gs,gs,gs,gs,hS0,by omega,by omega⟩
    · rw [hget_app_lt (by omega)]
    · simp -dsimp (maxSteps:=999999) (disch:=omega) only[go_sem,simprocAttr, *]
  clear hS0
  rintro e' Hx ⟨j,t,r,hj,hsm,hgq,hql,e0,e1,e5,e6,e7,e8,hS,ht0,ht1⟩ R2 hR2
  by_cases hbj : j < l.length
  case neg=>
    rw [List.drop_eq_nil_of_le (by omega),ruleW] at hS
    obtain ⟨rfl,rfl⟩ : st = t ∧ sr = r:=by cases hS;exact ⟨rfl,rfl⟩
    have hv2 : VecAt 0 d5 Hx (out.map pcD):=VecAt.keep hv hsm
    obtain ⟨d',H',hap,hv',hsm'⟩:=app_pc hv2 ⟨a,st,sr⟩ (by omega)
    replace hG : Hid (G = out ++ (⟨a,st,sr⟩ :: wordsL l w n st)):=hG
    have hk:=app_keep (k:=H.length) hap (by simpa [pcD] using added_pc (H:=Hx) ⟨a,st,sr⟩) (fun r hr=>by
      rcases hv with ⟨_,⟨_,hd⟩ | ⟨_,r',_,hr',hd,_⟩⟩
      · rw [hd] at hr;cases hr
      · rw [hd] at hr;simp [objsD] at hr;omega) (by simp;omega)
    rw [hget_app_lt hql,hgq] at hk
    clear hS hR2 hsm hv hv2
    repeat' (first | apply wz1|apply wz2|apply wz3|apply wz4|apply wz5|apply wz6 | simp -dsimp (maxSteps:=999999) (disch:=omega) only[go_sem,simprocAttr, *] | ((first | refine wz8 ?_ ?_|refine wz9 ?_ ?_|refine wz7 ?_ ?_)<;>intro hh <;> (try replace hh:=vqs hh) <;> (try (exfalso;first | exact hh | omega))))
    refine hR _ _ ⟨n,st,out ++ [⟨a,st,sr⟩],by omega,by omega,by omega,by simp;omega,gs,gs,?_,gs,?_⟩ ?_
    · show VecAt 0 d' H' _
      exact hv'
    · rw [show G = _ from hG];simp
    · simp -dsimp (maxSteps:=999999) (disch:=omega) only[go_sem,simprocAttr, *,natOf_int]
  obtain ⟨ok1,ok2⟩:=ho l[j] (List.getElem_mem hbj)
  have hrg:=rule_get hbj
  have hrx:=rule_rx l[j]
  have hst:=strip_rx l[j].rx
  rw [List.drop_eq_getElem_cons hbj,ruleW] at hS
  have he:=fun (H : Heap) (q : Nat) hq=>ends_ok u (by omega) (depth l[j].rx) l[j].rx ok1 (Nat.le_refl _) ok2 (startB u.length) (start_len _) H q hq
  have hel:=ends_len u l[j].rx (startB u.length) (start_len _)
  have hir:=fun (s : Int × Int) (h : a < s.1 ∧ s.1 ≤ w.length)=>innW_rng (E:=endsR u l[j].rx (startB u.length)) (k:=j) (a:=a) (b:=w.length) u.length s h (by omega)
  generalize endsR u l[j].rx (startB u.length) = E at *
  generalize l[j] = rj at *
  have hmk:=fun H=>mk_bools (n:=(w.length : Int) - a + 1) (H:=H) (by omega) (by omega)
  have hnat : ((w.length : Int) - a + 1).toNat = u.length + 1:=by omega
  simp only [hnat] at hmk
  have hF0 : (bsD (List.replicate (u.length + 1) false))[0]? = some (.bool false):=by simp [bsD,List.replicate_succ]
  have hF1 : (bsD (List.replicate (u.length + 1) false)).set 0 (.bool true) = bsD (startB u.length):=by simp [bsD,List.replicate_succ,startB]
  have hvs : vecSize (Hx ++ [Ob.arr (bsD (List.replicate (u.length + 1) false))]) Hx.length 1 = true:=vs_bools (l:=List.replicate (u.length + 1) false) (by rw [hget_app0];rfl) (by simp)
  have hcall:=he (Hx ++ [Ob.arr (bsD (startB u.length))]) Hx.length (by rw [hget_app0];rfl)
  generalize bsD (List.replicate (u.length + 1) false) = F at *
  clear he
  have eu : isD u = .sl false (u.map (.int .i64)):=rfl
  rw [eu] at hcall
  have q1:=rx_cells rj.rx
  have q2:=rx_aggQ rj.rx
  have q3:=rx_noTup rj.rx
  rw [hrx] at hcall
  repeat' (first | apply wz1|apply wz2|apply wz3|apply wz4|apply wz5|apply wz6 | simp -dsimp (maxSteps:=999999) (disch:=omega) only[go_sem,simprocAttr, *] | ((first | refine wz8 ?_ ?_|refine wz9 ?_ ?_|refine wz7 ?_ ?_)<;>intro hh <;> (try replace hh:=vqs hh) <;> (try (exfalso;first | exact hh | omega))))
  refine wpB_regionXL (prs:=[]) (by kernel_rfl) rfl (by kernel_rfl) ?_;simp -dsimp (maxSteps:=999999) (disch:=omega) only[go_sem,simprocAttr, *]
  refine ⟨fun h=>absurd ((show (pureC A 41 || freshC A 41) = false by rfl).symm.trans h) (by decide),evB_state bo41 rfl rfl hcall ?_ (fun _ _ h=>h.elim)⟩
  rintro _ Hy ⟨hsame,p,hp,rfl,hX⟩
  have hy1 : Same H.length H Hy:=hsm.trans ((Same.app (L:=[Ob.arr (bsD (startB u.length))]) (Nat.le_refl _)).trans (hsame.le (by simp)) |>.le (by omega))
  have hy2 : hget Hy H.length = .arr [.agg [.int .i64 a,.int .i64 t,.int .i64 r]]:=by rw [hsame.2 _ (by simp;omega),hget_app_lt hql,hgq]
  have hy3 : H.length < Hy.length:=by have:=hsame.1;simp at this;omega
  have hp2 : H.length < p:=by simp at hp;omega
  have hvx:=vs_bools hX (by omega)
  have hS2 : Hid ((st,sr) = ruleW u a (l.drop (j + 1)) ((j + 1 : Nat) : Int) (innW E j a u.length (t,r))):=hS
  clear hsame hcall hsm hgq hql hS hF0 hF1 hvs hp hir
  repeat' (first | apply wz1|apply wz2|apply wz3|apply wz4|apply wz5|apply wz6 | simp -dsimp (maxSteps:=999999) (disch:=omega) only[go_sem,simprocAttr, *] | ((first | refine wz8 ?_ ?_|refine wz9 ?_ ?_|refine wz7 ?_ ?_)<;>intro hh <;> (try replace hh:=vqs hh) <;> (try (exfalso;first | exact hh | omega))))
  refine wpB_loop (fun e Hz=>∃ (m : Nat) (t r : Int),m ≤ u.length ∧ Same H.length H Hz ∧ hget Hz H.length = .arr [.agg [.int .i64 a,.int .i64 t,.int .i64 r]] ∧ H.length < Hz.length ∧ hget Hz p = .arr (bsD E) ∧ e 0 = .sl false (l.map ruleD) ∧ e 1 = isD w ∧ e 5 = d5 ∧ e 6 = .int .i64 a ∧ e 7 = .ptr H.length 0 0 ∧ e 8 = .int .i64 j ∧ e 10 = .vec p 0 (u.length + 1) ∧ e 11 = .int .i64 m ∧ (st,sr) = ruleW u a (l.drop (j + 1)) ((j + 1 : Nat) : Int) (innW E j a m (t,r)) ∧ a < t ∧ t ≤ w.length) (fun e H=>natOf (e 11)) ?_ ?_
  · exact ⟨u.length,t,r,by omega,hy1,hy2,hy3,hX,gs,gs,gs,gs,gs,gs,gs,by rw [hul];simp -dsimp (maxSteps:=999999) (disch:=omega) only[go_sem,simprocAttr, *],hS2,by omega,by omega⟩
  clear hS2 hX hvx hy1 hy2 hy3 ht0 ht1
  have e8o:=e8
  clear e0 e1 e5 e6 e7 e8
  clear hmk q1 q2 q3
  rintro e2 Hz ⟨m,t,r,hm,z1,z2,z3,hX,e0,e1,e5,e6,e7,e8,e10,e11,hS,ht0,ht1⟩ R3 hR3
  have hvx:=vs_bools hX (by omega)
  cases m with
  | zero=>
    rw [innW] at hS
    replace hS : Hid ((st,sr) = ruleW u a (l.drop (j + 1)) ((j + 1 : Nat) : Int) (t,r)):=hS
    repeat' (first | apply wz1|apply wz2|apply wz3|apply wz4|apply wz5|apply wz6 | simp -dsimp (maxSteps:=999999) (disch:=omega) only[go_sem,simprocAttr, *] | ((first | refine wz8 ?_ ?_|refine wz9 ?_ ?_|refine wz7 ?_ ?_)<;>intro hh <;> (try replace hh:=vqs hh) <;> (try (exfalso;first | exact hh | omega))))
    refine hR2 _ _ ⟨j + 1,t,r,by omega,z1,z2,z3,gs,gs,gs,gs,gs,gs,hS,ht0,ht1⟩ ?_
    simp -dsimp (maxSteps:=999999) (disch:=omega) only[go_sem,simprocAttr, *,natOf_int]
  | succ m=>
    rw [innW] at hS
    have hEm:=bs_at (l:=E) (i:=m + 1) (by omega)
    have hEg : E.getD (m + 1) false = E[m + 1]:=by simp [List.getD,show m + 1 < E.length by omega]
    rw [hEg] at hS
    generalize E[m + 1] = x at *
    have w1 : H.length ≠ p:=by omega
    have fin : ∀ t r : Int,(hget (Hz.set H.length (.arr [.agg [.int .i64 a,.int .i64 t,.int .i64 r]])) H.length = .arr [.agg [.int .i64 a,.int .i64 t,.int .i64 r]]) ∧ Same H.length H (Hz.set H.length (.arr [.agg [.int .i64 a,.int .i64 t,.int .i64 r]])) ∧ hget (Hz.set H.length (.arr [.agg [.int .i64 a,.int .i64 t,.int .i64 r]])) p = .arr (bsD E):=fun t r=>⟨hget_set_eq z3,z1.trans (Same.set (Nat.le_refl _)),by rw [hget_set_ne w1];exact hX⟩
    cases x with
    | false=>
      rw [if_neg (by simp)] at hS
      replace hS : Hid ((st,sr) = ruleW u a (l.drop (j + 1)) ((j + 1 : Nat) : Int) (innW E j a m (t,r))):=hS
      repeat' (first | apply wz1|apply wz2|apply wz3|apply wz4|apply wz5|apply wz6 | simp -dsimp (maxSteps:=999999) (disch:=omega) only[go_sem,simprocAttr, *] | ((first | refine wz8 ?_ ?_|refine wz9 ?_ ?_|refine wz7 ?_ ?_)<;>intro hh <;> (try replace hh:=vqs hh) <;> (try (exfalso;first | exact hh | omega))))
      refine hR3 _ _ ⟨m,t,r,by omega,z1,z2,z3,hX,gs,gs,gs,gs,gs,gs,gs,gs,hS,ht0,ht1⟩ ?_
      simp -dsimp (maxSteps:=999999) (disch:=omega) only[go_sem,simprocAttr, *,natOf_int]
    | true=>
      rw [show ((m + 1 : Nat) : Int) = (m : Int) + 1 by omega] at hS
      by_cases hc : r < 0 ∨ t < a + ((m : Int) + 1)
      · rw [if_pos ⟨rfl,hc⟩] at hS
        replace hS : Hid ((st,sr) = ruleW u a (l.drop (j + 1)) ((j + 1 : Nat) : Int) (innW E j a m (a + ((m : Int) + 1),j))):=hS
        obtain ⟨f1,f2,f3⟩:=fin (a + ((m : Int) + 1)) j
        rcases hc with hc | hc
        all_goals
          repeat' (first | apply wz1|apply wz2|apply wz3|apply wz4|apply wz5|apply wz6 | simp -dsimp (maxSteps:=999999) (disch:=omega) only[go_sem,simprocAttr, *] | ((first | refine wz8 ?_ ?_|refine wz9 ?_ ?_|refine wz7 ?_ ?_)<;>intro hh <;> (try replace hh:=vqs hh) <;> (try (exfalso;first | exact hh | omega))))
          all_goals
            refine hR3 _ _ ⟨m,a + ((m : Int) + 1),j,by omega,by rw [List.set_set];exact f2,by rw [List.set_set];exact f1,by simpa using z3,by rw [List.set_set];exact f3,gs,gs,gs,gs,gs,gs,gs,gs,hS,by omega,by omega⟩ ?_
            simp -dsimp (maxSteps:=999999) (disch:=omega) only[go_sem,simprocAttr, *,natOf_int]
      · rw [if_neg (fun h=>hc h.2)] at hS
        replace hS : Hid ((st,sr) = ruleW u a (l.drop (j + 1)) ((j + 1 : Nat) : Int) (innW E j a m (t,r))):=hS
        repeat' (first | apply wz1|apply wz2|apply wz3|apply wz4|apply wz5|apply wz6 | simp -dsimp (maxSteps:=999999) (disch:=omega) only[go_sem,simprocAttr, *] | ((first | refine wz8 ?_ ?_|refine wz9 ?_ ?_|refine wz7 ?_ ?_)<;>intro hh <;> (try replace hh:=vqs hh) <;> (try (exfalso;first | exact hh | omega))))
        refine hR3 _ _ ⟨m,t,r,by omega,z1,z2,z3,hX,gs,gs,gs,gs,gs,gs,gs,gs,hS,ht0,ht1⟩ ?_
        simp -dsimp (maxSteps:=999999) (disch:=omega) only[go_sem,simprocAttr, *,natOf_int]
end Go.Proofs.W
end
section
namespace Go.Proofs.W
open Go Vm Go.Proofs.Zs25
theorem long_at {d : Dfa} (hr : rightD d = true) (w : List Int) (f : Int) (h0 : 0 ≤ f) (h1 : f ≤ w.length) : longD d w f = match refA d 0 (w.drop f.toNat) (w.drop f.toNat).length with
    | none=>(-1,-1)
    | some m=>(f + m,ruleAt d (runD d 0 ((w.drop f.toNat).take m))):=by
  unfold longD
  rw [if_pos ⟨hr,h0,h1⟩,lg_ref _ _ _ _ _ (by omega)]
  all_goals (cases refA d 0 (w.drop f.toNat) (w.drop f.toNat).length <;> rfl)
theorem long_shift {d : Dfa} (hr : rightD d = true) (w : List Int) (a : Nat) (f : Int) (h0 : 0 ≤ f) (h1 : f + a ≤ w.length) : longD d (w.drop a) f = if (longD d w (f + a)).1 < 0 then (-1,-1) else ((longD d w (f + a)).1 - a,(longD d w (f + a)).2):=by
  rw [long_at hr (w.drop a) f h0 (by rw [List.length_drop];omega),long_at hr w (f + a) (by omega) h1,List.drop_drop,show a + f.toNat = (f + a).toNat by omega]
  cases refA d 0 (w.drop (f + a).toNat) (w.drop (f + a).toNat).length with
  | none=>rfl
  | some m=>
    simp only
    rw [if_neg (by omega)]
    congr 1
    omega
end Go.Proofs.W
end
