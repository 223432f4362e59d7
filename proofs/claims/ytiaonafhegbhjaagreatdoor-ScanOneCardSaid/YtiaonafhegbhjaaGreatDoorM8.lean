/- Texts that stand behind this claim, one after the other. -/
import Derived.Test.YtiaonafhegbhjaaGreatDoorM6
import Derived.Test.YtiaonafhegbhjaaGreatDoorM7
set_option maxHeartbeats 4000000
set_option linter.unusedVariables false
set_option linter.unusedSimpArgs false
section
namespace Go.Proofs.W
open Go Vm Go.Proofs.Zso
theorem jpn {a x : D} {H : Heap} {k : Nat} (ha : strip a = some a) (hx : strip x = some x) (hk : k = H.length) : pures (H ++ [.arr [x]]) [a,.vec k 0 1] = some ([a,.sl false [x]],H ++ [.fro [x]]):=by
  subst hk
  have hg : hget (H ++ [Ob.arr [x]]) H.length = .arr [x]:=by rw [jap];rfl
  simp only [pures,deepest,purL,jcY ha,Option.bind_some]
  rw [show (6 : Nat) = 4 + 2 from rfl,jdZ,hg]
  have hs : stripL [x] = some [x]:=by simp [stripL,hx]
  simp only [Nat.zero_add,List.length_cons,List.length_nil,Nat.le_refl,if_true,List.drop_zero,List.take_succ_cons,List.take_zero]
  rw [jbd hs]
  simp
noncomputable def clos (n : Nfa) (l : List Int) : List Int:=listZ n.set.length (clo n (inS n.set.length l))
def stp (n : Nfa) (c : Int) (l : List Int) : List Int:=listZ n.set.length (stepTo n c (fun s=>decide ((s : Int) ∈ l)) n.set.length)
def okS (n : Nfa) (c s : Int) : Bool:=isS n.set.length s && hit n c s.toNat
def steps (n : Nfa) (c : Int) (l : List Int) : List Int:=(l.filter (okS n c)).map fun s=>n.to.getD s.toNat 0
theorem jn2 {n : Nfa} {c : Int} {l : List Int} {j : Nat} (h : j < l.length) : steps n c (l.take (j + 1)) = steps n c (l.take j) ++ if okS n c l[j] then [n.to.getD l[j].toNat 0] else []:=by
  unfold steps
  rw [ja1 h,List.filter_append,List.map_append]
  congr 1
  by_cases hq : okS n c l[j] = true <;> simp [hq]
theorem jif (n : Nfa) (c : Int) (l : List Int) : (steps n c l).length <= l.length:=by
  have:=List.length_filter_le (okS n c) l
  simpa [steps] using this
theorem jso {n : Nfa} (hn : rightN n = true) (c : Int) (l : List Int) : Lib.compact (sortZ (steps n c l)) = stp n c l:=by
  obtain ⟨h1,h2⟩:=jhO (steps n c l)
  refine jby h1 (jbs _ _) fun x=>?_
  rw [h2]
  unfold stp
  rw [mem_listZ]
  simp only [steps,List.mem_map,List.mem_filter,stepTo,List.any_eq_true,List.mem_range,Bool.and_eq_true,decide_eq_true_eq,okS,isS_iff]
  constructor
  · rintro ⟨s,⟨h3,⟨h4,h5⟩,h6⟩,rfl⟩
    have:=jpF hn (by omega) h6
    exact ⟨(n.to.getD s.toNat 0).toNat,by omega,⟨s.toNat,by omega,⟨by rw [show ((s.toNat : Nat) : Int) = s by omega];exact h3,h6⟩,by omega⟩,by omega⟩
  · rintro ⟨i,h3,⟨j,h4,⟨h5,h6⟩,h7⟩,rfl⟩
    exact ⟨(j : Int),⟨h5,⟨by omega,by omega⟩,by simpa using h6⟩,by simpa using h7⟩
theorem jvO (n : Nfa) (c : Int) (l : List Int) (hn : rightN n = true) (hl : l.length <= 100000) : PureF Tryz.prog A 91 [nfaD n,isD l,.int .i64 c] (isD (stp n c l)):=by
  have hrr:=jaX hn
  have hk:=hrr.1
  have hk2:=hrr.2.1
  have hto0:=hrr.2.2.2.1
  have hse:=jso hn c l
  have hH : ∀ (i : Nat) (s : Int),n.set.getD i 0 = s -> 0 <= c -> c < 16 -> hit n c i = bitZ s c:=fun i s h h0 h1=>jvI h0 h1 h
  refine jaj (n:=57) (rs:=[.tmp 6]) Tryz.func91 rfl rfl rfl rfl rfl rfl ?_
  repeat' (first | apply wz1|apply wz2|apply wz3|apply wz4|apply wz5|apply wz6 | simp -dsimp (maxSteps:=999999) (disch:=omega) only[go_sem,simprocAttr, *,isD,nfaD] | ((first | refine wz8 (fun hh=>?_) (fun hh=>?_) | refine wz9 (fun hh=>?_) (fun hh=>?_) | refine jak (by simp -dsimp (maxSteps:=999999) (disch:=omega) only[go_sem,simprocAttr, *,isD,nfaD];exact rfl) (fun hh=>?_) (fun hh=>?_)) <;> (try replace hh:=vqs hh) <;> (try (exfalso;first | exact hh | omega))))
  refine jae (fun e H=>∃ (j : Nat) (d : D),j <= l.length /\ hget H 0 = .arr [nfaD n] /\ VecAt 1 d H ((steps n c (l.take j)).map (.int .i64)) /\ e 2 = .int .i64 c /\ e 3 = .ptr 0 0 0 /\ e 7 = d /\ e 10 = isD l /\ e 11 = .int .i64 l.length /\ e 12 = .int .i64 j) (fun e H=>l.length - natOf (e 12)) ?_ ?_
  · exact ⟨0,.sl true [],by omega,rfl,VecAt.nil (by simp),gs,gs,gs,by simp -dsimp (maxSteps:=999999) (disch:=omega) only[go_sem,simprocAttr, *,isD],gs,gs⟩
  · rintro e H ⟨j,d,hj,h0,hv,e2,e3,e7,e10,e11,e12⟩ R hR
    by_cases hb : j < l.length
    · have hst:=jn2 (n:=n) (c:=c) hb
      have no : okS n c l[j] = false -> steps n c (l.take (j + 1)) = steps n c (l.take j):=fun h=>by rw [hst,h];simp
      by_cases hin : isS n.set.length l[j] = true
      · obtain ⟨i,hi⟩ : ∃ i : Nat,l[j] = (i : Int):=⟨l[j].toNat,by have:=isS_iff.1 hin;omega⟩
        have hik : i < n.set.length:=by have:=isS_iff.1 hin;omega
        obtain ⟨s,hs1,hs2⟩:=ex_at (l:=n.set) (i:=i) 0 (by omega)
        obtain ⟨t,ht1,ht2⟩:=ex_at (l:=n.to) (i:=i) 0 (by omega)
        have hx : l[j]? = some (i : Int):=by rw [List.getElem?_eq_getElem hb,hi]
        have hokS : okS n c l[j] = hit n c i:=by rw [hi] at hin ⊢;simp only [okS,hin,Int.toNat_natCast,Bool.true_and]
        rw [hokS] at no hst
        have hbit:=hH i s hs2
        simp only [bitZ] at hbit
        cases hht : hit n c i with
        | false=>
          have hno:=no hht
          clear hst no hokS hin hi
          by_cases c0 : 0 <= c
          · by_cases c1 : c < 16
            · replace hbit:=(hbit c0 c1).symm.trans hht
              repeat' (first | apply wz1|apply wz2|apply wz3|apply wz4|apply wz5|apply wz6 | simp -dsimp (maxSteps:=999999) (disch:=omega) only[go_sem,simprocAttr, *,nfaD,u16D,isD] | ((first | refine wz8 (fun hh=>?_) (fun hh=>?_) | refine wz9 (fun hh=>?_) (fun hh=>?_) | refine jak (by simp -dsimp (maxSteps:=999999) (disch:=omega) only[go_sem,simprocAttr, *,nfaD,u16D,isD];exact rfl) (fun hh=>?_) (fun hh=>?_)) <;> (try replace hh:=vqs hh) <;> (try (exfalso;first | exact hh | omega))))
              · exact absurd (hbit.symm.trans (beq_iff_eq.2 (by assumption))) (by decide)
              · refine hR _ _ ⟨j + 1,d,by omega,by simp -dsimp (maxSteps:=999999) (disch:=omega) only[go_sem,simprocAttr, *,nfaD,u16D,isD],by rw [hno];exact hv,gs,gs,gs,by simp -dsimp (maxSteps:=999999) (disch:=omega) only[go_sem,simprocAttr, *,isD],gs,gs⟩ ?_
                simp -dsimp (maxSteps:=999999) (disch:=omega) only[go_sem,simprocAttr, *,jab]
            · clear hbit
              repeat' (first | apply wz1|apply wz2|apply wz3|apply wz4|apply wz5|apply wz6 | simp -dsimp (maxSteps:=999999) (disch:=omega) only[go_sem,simprocAttr, *,nfaD,u16D,isD] | ((first | refine wz8 (fun hh=>?_) (fun hh=>?_) | refine wz9 (fun hh=>?_) (fun hh=>?_) | refine jak (by simp -dsimp (maxSteps:=999999) (disch:=omega) only[go_sem,simprocAttr, *,nfaD,u16D,isD];exact rfl) (fun hh=>?_) (fun hh=>?_)) <;> (try replace hh:=vqs hh) <;> (try (exfalso;first | exact hh | omega))))
              refine hR _ _ ⟨j + 1,d,by omega,by simp -dsimp (maxSteps:=999999) (disch:=omega) only[go_sem,simprocAttr, *,nfaD,u16D,isD],by rw [hno];exact hv,gs,gs,gs,by simp -dsimp (maxSteps:=999999) (disch:=omega) only[go_sem,simprocAttr, *,isD],gs,gs⟩ ?_
              simp -dsimp (maxSteps:=999999) (disch:=omega) only[go_sem,simprocAttr, *,jab]
          · clear hbit
            repeat' (first | apply wz1|apply wz2|apply wz3|apply wz4|apply wz5|apply wz6 | simp -dsimp (maxSteps:=999999) (disch:=omega) only[go_sem,simprocAttr, *,nfaD,u16D,isD] | ((first | refine wz8 (fun hh=>?_) (fun hh=>?_) | refine wz9 (fun hh=>?_) (fun hh=>?_) | refine jak (by simp -dsimp (maxSteps:=999999) (disch:=omega) only[go_sem,simprocAttr, *,nfaD,u16D,isD];exact rfl) (fun hh=>?_) (fun hh=>?_)) <;> (try replace hh:=vqs hh) <;> (try (exfalso;first | exact hh | omega))))
            refine hR _ _ ⟨j + 1,d,by omega,by simp -dsimp (maxSteps:=999999) (disch:=omega) only[go_sem,simprocAttr, *,nfaD,u16D,isD],by rw [hno];exact hv,gs,gs,gs,by simp -dsimp (maxSteps:=999999) (disch:=omega) only[go_sem,simprocAttr, *,isD],gs,gs⟩ ?_
            simp -dsimp (maxSteps:=999999) (disch:=omega) only[go_sem,simprocAttr, *,jab]
        | true=>
          have hc : 0 <= c /\ c < 16:=by
            simp only [hit,inB,Bool.and_eq_true,decide_eq_true_eq] at hht
            exact hht.1
          obtain ⟨c0,c1⟩:=hc
          replace hbit:=(hbit c0 c1).symm.trans hht
          rw [hht,hi] at hst
          simp only [if_true,Int.toNat_natCast,ht2] at hst
          obtain ⟨d',H',ha,hv',hsm⟩:=jm0 hv t (by have:=jif n c (l.take j);simp at this;omega)
          have h0':=hsm.2 0 (by omega)
          rw [h0] at h0'
          clear no hokS hin hi
          repeat' (first | apply wz1|apply wz2|apply wz3|apply wz4|apply wz5|apply wz6 | simp -dsimp (maxSteps:=999999) (disch:=omega) only[go_sem,simprocAttr, *,nfaD,u16D,isD] | ((first | refine wz8 (fun hh=>?_) (fun hh=>?_) | refine wz9 (fun hh=>?_) (fun hh=>?_) | refine jak (by simp -dsimp (maxSteps:=999999) (disch:=omega) only[go_sem,simprocAttr, *,nfaD,u16D,isD];exact rfl) (fun hh=>?_) (fun hh=>?_)) <;> (try replace hh:=vqs hh) <;> (try (exfalso;first | exact hh | omega))))
          rotate_left
          · exact absurd (beq_iff_eq.1 hbit) (by assumption)
          refine hR _ _ ⟨j + 1,d',by omega,by simp -dsimp (maxSteps:=999999) (disch:=omega) only[go_sem,simprocAttr, *,nfaD,u16D,isD],by rw [hst];exact hv',gs,gs,gs,by simp -dsimp (maxSteps:=999999) (disch:=omega) only[go_sem,simprocAttr, *,isD],gs,gs⟩ ?_
          simp -dsimp (maxSteps:=999999) (disch:=omega) only[go_sem,simprocAttr, *,jab]
      · have hno:=no (by simp only [okS,Bool.and_eq_false_iff];left;simpa using hin)
        have hrng : l[j] < 0 ∨ (n.set.length : Int) <= l[j]:=by
          have : ¬ (0 <= l[j] /\ l[j] < (n.set.length : Int)):=fun h=>hin (isS_iff.2 h)
          omega
        clear no hst hH
        rcases hrng with h | h
        all_goals
          repeat' (first | apply wz1|apply wz2|apply wz3|apply wz4|apply wz5|apply wz6 | simp -dsimp (maxSteps:=999999) (disch:=omega) only[go_sem,simprocAttr, *,nfaD,u16D,isD] | ((first | refine wz8 (fun hh=>?_) (fun hh=>?_) | refine wz9 (fun hh=>?_) (fun hh=>?_) | refine jak (by simp -dsimp (maxSteps:=999999) (disch:=omega) only[go_sem,simprocAttr, *,nfaD,u16D,isD];exact rfl) (fun hh=>?_) (fun hh=>?_)) <;> (try replace hh:=vqs hh) <;> (try (exfalso;first | exact hh | omega))))
          refine hR _ _ ⟨j + 1,d,by omega,by simp -dsimp (maxSteps:=999999) (disch:=omega) only[go_sem,simprocAttr, *,nfaD,u16D,isD],by rw [hno];exact hv,gs,gs,gs,by simp -dsimp (maxSteps:=999999) (disch:=omega) only[go_sem,simprocAttr, *,isD],gs,gs⟩ ?_
          simp -dsimp (maxSteps:=999999) (disch:=omega) only[go_sem,simprocAttr, *,jab]
    · have hle:=jif n c (l.take j)
      rw [List.take_of_length_le (by omega)] at hv hle
      obtain ⟨H3,hs1,hs2,hs3⟩:=jkx hv (by omega)
      obtain ⟨d4,H4,hc1,hc2,hc3⟩:=jlQ hs2 (by rw [je0];omega)
      repeat' (first | apply wz1|apply wz2|apply wz3|apply wz4|apply wz5|apply wz6 | simp -dsimp (maxSteps:=999999) (disch:=omega) only[go_sem,simprocAttr, *] | ((first | refine wz8 ?_ ?_|refine wz9 ?_ ?_|refine wz7 ?_ ?_)<;>intro hh <;> (try replace hh:=vqs hh) <;> (try (exfalso;first | exact hh | omega))))
      refine jdp bo110 rfl hs1 ?_
      repeat' (first | apply wz1|apply wz2|apply wz3|apply wz4|apply wz5|apply wz6 | simp -dsimp (maxSteps:=999999) (disch:=omega) only[go_sem,simprocAttr, *] | ((first | refine wz8 ?_ ?_|refine wz9 ?_ ?_|refine wz7 ?_ ?_)<;>intro hh <;> (try replace hh:=vqs hh) <;> (try (exfalso;first | exact hh | omega))))
      refine jdp bo111 rfl hc1 ?_
      repeat' (first | apply wz1|apply wz2|apply wz3|apply wz4|apply wz5|apply wz6 | simp -dsimp (maxSteps:=999999) (disch:=omega) only[go_sem,simprocAttr, *] | ((first | refine wz8 ?_ ?_|refine wz9 ?_ ?_|refine wz7 ?_ ?_)<;>intro hh <;> (try replace hh:=vqs hh) <;> (try (exfalso;first | exact hh | omega))))
end Go.Proofs.W
end
section
namespace Go.Proofs.W
open Go Vm Go.Proofs.Zso
theorem jqQ {f : FuncId} {args xs : List D} {d : D} {H H' : Heap} {K Kp : D -> Heap -> Prop} (hb : bodied Tryz.prog f = true) (hp : primQ A f = false) (hm : A.mode f = .pure) (ha : pures H args = some (xs,H')) (h : PureF Tryz.prog A f xs d) (k : ∀ H2,H2 = H ∨ H2 = H' -> PP (K d H2)) : EvB Tryz.prog A f args H K Kp:=by
  refine jtb hb hp hm ha h ?_
  split
  · exact k _ (.inl rfl)
  · exact k _ (.inr rfl)
theorem jdA (n : Nfa) : noTup (nfaD n) = true:=rfl
theorem jiJ (n : Nfa) : (nfaD n).cells.length = 4:=rfl
theorem jeh (n : Nfa) : aggQ (nfaD n) = true:=rfl
theorem jpj (n : Nfa) : stripL [nfaD n] = some [nfaD n]:=jaH (jdC n)
theorem jmD (n : Nfa) (l : List Int) : stripL [nfaD n,isD l] = some [nfaD n,isD l]:=jb7 (jdC n) (jaJ l)
theorem jjM (n : Nfa) (l : List Int) (c : Int) : stripL [nfaD n,isD l,.int .i64 c] = some [nfaD n,isD l,.int .i64 c]:=by simp [stripL,jdC,jaJ,strip]
noncomputable def closeN (n : Nfa) (l : List Int) : List Int:=if rightN n then clos n l else []
def stepN (n : Nfa) (c : Int) (l : List Int) : List Int:=if rightN n then stp n c l else []
noncomputable def atN (n : Nfa) (w : List Int) : List Int:=w.foldl (fun at' c=>clos n (stp n c at')) (clos n [0])
noncomputable def matchN (n : Nfa) (w : List Int) : Int:=if rightN n then endsZ n (atN n w) else -1
structure OkN (n : Nfa) : Prop where
  len : n.set.length <= 100000
  fl : ∀ l ∈ n.free,l.length <= 1000000
theorem jjN (n : Nfa) (l : List Int) (h : OkN n) (hl : l.length <= 1000000) : PureF Tryz.prog A 67 [nfaD n,isD l] (isD (closeN n l)):=by
  have a1:=jdA n
  have a2:=jiJ n
  have a3:=jeh n
  refine jaj (n:=11) (rs:=[.tmp 4]) Tryz.func67 rfl rfl rfl rfl rfl rfl ?_
  repeat' (first | apply wz1|apply wz2|apply wz3|apply wz4|apply wz5|apply wz6 | simp -dsimp (maxSteps:=999999) (disch:=omega) only[go_sem,simprocAttr, *] | ((first | refine wz8 ?_ ?_|refine wz9 ?_ ?_|refine wz7 ?_ ?_)<;>intro hh <;> (try replace hh:=vqs hh) <;> (try (exfalso;first | exact hh | omega))))
  refine jal bo89 rfl rfl (jpj n) (jiL n (by have:=h.len;omega) h.fl) ?_
  unfold closeN
  cases hr : rightN n with
  | false=>
    repeat' (first | apply wz1|apply wz2|apply wz3|apply wz4|apply wz5|apply wz6 | simp -dsimp (maxSteps:=999999) (disch:=omega) only[go_sem,simprocAttr, *] | ((first | refine wz8 ?_ ?_|refine wz9 ?_ ?_|refine wz7 ?_ ?_)<;>intro hh <;> (try replace hh:=vqs hh) <;> (try (exfalso;first | exact hh | omega))))
    rfl
  | true=>
    repeat' (first | apply wz1|apply wz2|apply wz3|apply wz4|apply wz5|apply wz6 | simp -dsimp (maxSteps:=999999) (disch:=omega) only[go_sem,simprocAttr, *] | ((first | refine wz8 ?_ ?_|refine wz9 ?_ ?_|refine wz7 ?_ ?_)<;>intro hh <;> (try replace hh:=vqs hh) <;> (try (exfalso;first | exact hh | omega))))
    refine jal bo90 rfl rfl (jmD n l) (jqB n l hr h.fl hl) ?_
    repeat' (first | apply wz1|apply wz2|apply wz3|apply wz4|apply wz5|apply wz6 | simp -dsimp (maxSteps:=999999) (disch:=omega) only[go_sem,simprocAttr, *] | ((first | refine wz8 ?_ ?_|refine wz9 ?_ ?_|refine wz7 ?_ ?_)<;>intro hh <;> (try replace hh:=vqs hh) <;> (try (exfalso;first | exact hh | omega))))
    exact jaF (jaJ _)
theorem jsG (n : Nfa) (l : List Int) (c : Int) (h : OkN n) (hl : l.length <= 100000) : PureF Tryz.prog A 68 [nfaD n,isD l,.int .i64 c] (isD (stepN n c l)):=by
  have a1:=jdA n
  have a2:=jiJ n
  have a3:=jeh n
  refine jaj (n:=14) (rs:=[.tmp 6]) Tryz.func68 rfl rfl rfl rfl rfl rfl ?_
  repeat' (first | apply wz1|apply wz2|apply wz3|apply wz4|apply wz5|apply wz6 | simp -dsimp (maxSteps:=999999) (disch:=omega) only[go_sem,simprocAttr, *] | ((first | refine wz8 ?_ ?_|refine wz9 ?_ ?_|refine wz7 ?_ ?_)<;>intro hh <;> (try replace hh:=vqs hh) <;> (try (exfalso;first | exact hh | omega))))
  refine jal bo89 rfl rfl (jpj n) (jiL n (by have:=h.len;omega) h.fl) ?_
  unfold stepN
  cases hr : rightN n with
  | false=>
    repeat' (first | apply wz1|apply wz2|apply wz3|apply wz4|apply wz5|apply wz6 | simp -dsimp (maxSteps:=999999) (disch:=omega) only[go_sem,simprocAttr, *] | ((first | refine wz8 ?_ ?_|refine wz9 ?_ ?_|refine wz7 ?_ ?_)<;>intro hh <;> (try replace hh:=vqs hh) <;> (try (exfalso;first | exact hh | omega))))
    rfl
  | true=>
    repeat' (first | apply wz1|apply wz2|apply wz3|apply wz4|apply wz5|apply wz6 | simp -dsimp (maxSteps:=999999) (disch:=omega) only[go_sem,simprocAttr, *] | ((first | refine wz8 ?_ ?_|refine wz9 ?_ ?_|refine wz7 ?_ ?_)<;>intro hh <;> (try replace hh:=vqs hh) <;> (try (exfalso;first | exact hh | omega))))
    refine jal bo91 rfl rfl (jjM n l c) (jvO n c l hr hl) ?_
    repeat' (first | apply wz1|apply wz2|apply wz3|apply wz4|apply wz5|apply wz6 | simp -dsimp (maxSteps:=999999) (disch:=omega) only[go_sem,simprocAttr, *] | ((first | refine wz8 ?_ ?_|refine wz9 ?_ ?_|refine wz7 ?_ ?_)<;>intro hh <;> (try replace hh:=vqs hh) <;> (try (exfalso;first | exact hh | omega))))
    exact jaF (jaJ _)
theorem juR (n : Nfa) (c : Int) (l : List Int) : (stp n c l).length <= n.set.length:=jiB _ _
theorem jgp (n : Nfa) (l : List Int) : (clos n l).length <= n.set.length:=jiB _ _
theorem jdU {n : Nfa} {l : List Int} {s : Int} (h : s ∈ clos n l) : 0 <= s /\ s < n.set.length:=by
  obtain ⟨i,h1,h2,h3⟩:=mem_listZ.1 h
  omega
theorem jkj (n : Nfa) (w : List Int) : ∃ l,atN n w = clos n l:=by
  have : ∀ (w : List Int) (a : List Int),(∃ l,a = clos n l) -> ∃ l,w.foldl (fun at' c=>clos n (stp n c at')) a = clos n l:=by
    intro w
    induction w with
    | nil=>exact fun a h=>h
    | cons c w ih=>exact fun a h=>ih _ ⟨_,rfl⟩
  exact this w _ ⟨_,rfl⟩
theorem jkd {n : Nfa} {w : List Int} {j : Nat} (h : j < w.length) : atN n (w.take (j + 1)) = clos n (stp n w[j] (atN n (w.take j))):=by
  unfold atN
  rw [ja1 h,List.foldl_append]
  rfl
end Go.Proofs.W
end
section
namespace Go.Proofs.W
open Go Vm Go.Proofs.Zso
def own (L : List D) (r : Nat) : Prop:=∃ k,r ∈ objsD (L.getD k ud)
def Apart (L : List D) : Prop:=∀ i j,i ≠ j -> ∀ r,r ∈ objsD (L.getD i ud) -> r ∉ objsD (L.getD j ud)
structure Mv6 (L : List D) (H : Heap) (L' : List D) (H' : Heap) : Prop where
  keep : ∀ r,r < H.length -> ¬ own L r -> hget H' r = hget H r
  len : H.length <= H'.length
  ow : ∀ r,own L' r -> own L r ∨ H.length <= r
theorem Mv6.refl {L : List D} {H : Heap} : Mv6 L H L H:=⟨fun _ _ _=>rfl,Nat.le_refl _,fun _ h=>.inl h⟩
theorem Mv6.trans {L L1 L2 : List D} {H H1 H2 : Heap} (h : Mv6 L H L1 H1) (g : Mv6 L1 H1 L2 H2) : Mv6 L H L2 H2:=by
  refine ⟨fun r hr ho=>?_,Nat.le_trans h.len g.len,fun r ho=>?_⟩
  · rw [g.keep r (by have:=h.len;omega) fun h1=>?_,h.keep r hr ho]
    rcases h.ow r h1 with h2 | h2
    · exact ho h2
    · omega
  · rcases g.ow r ho with h1 | h1
    · exact h.ow r h1
    · exact .inr (by have:=h.len;omega)
theorem jfi {d : D} {H : Heap} {xs : List D} (h : VecIs d H xs) {r : Nat} (hr : r ∈ objsD d) : r < H.length:=by
  rcases h with ⟨_,rfl⟩ | ⟨_,r',rfl,_,h4⟩
  · cases hr
  · simp [objsD] at hr;omega
theorem jaQ {d : D} {H H' : Heap} {xs : List D} (h : VecIs d H xs) (hl : H.length <= H'.length) (hk : ∀ r ∈ objsD d,hget H' r = hget H r) : VecIs d H' xs:=by
  rcases h with h | ⟨h1,r,rfl,h3,h4⟩
  · exact .inl h
  · exact .inr ⟨h1,r,rfl,by rw [hk r (by simp [objsD]),h3],by omega⟩
theorem jbT {d : D} {H : Heap} {xs : List D} (h : VecIs d H xs) : d.cells = [d] /\ aggQ d = false /\ noTup d = true:=by
  rcases h with ⟨_,rfl⟩ | ⟨_,r,rfl,_,_⟩ <;> exact ⟨rfl,rfl,rfl⟩
theorem jb0 {d : D} {H : Heap} {xs : List D} (h : VecIs d H xs) (hx : xs ≠ []) : ∃ r,d = .vec r 0 xs.length /\ hget H r = .arr xs /\ r < H.length:=by
  rcases h with ⟨h1,_⟩ | ⟨_,h⟩
  · exact absurd h1 hx
  · exact h
theorem jm1     {t e : TypeId} {n w : Nat} {z d q y : D} {H0 H : Heap} {xs : List D} (he : elemT Tryz.prog t = some e) (hn : sizeT Tryz.prog e = some n) (hw : bytesT Tryz.prog e = some w) (hz : zeroT Tryz.prog e = some z) (hzn : z.cells.length = n) (hw0 : w ≠ 0)
    (h : VecIs d H0 xs) (hH : H0.length <= H.length) (hHk : ∀ r ∈ objsD d,hget H r = hget H0 r) (hadd : addedD H y = some ([q],H)) (hq : q.cells.length = n) (hx : headSize n xs = true) (hm : (xs.length + 1) * w <= 140737488355328) :
    ∃ d' H',appendD Tryz.prog t H d y = some (d',H') /\ VecIs d' H' (xs ++ [q]) /\ H.length <= H'.length /\ (∀ r,r < H.length -> r ∉ objsD d -> hget H' r = hget H r) /\ (∀ r ∈ objsD d',H.length <= r):=by
  replace h:=jaQ h hH hHk
  have hqs : headSize n [q] = true:=by simp [headSize,hq]
  rcases h with ⟨rfl,rfl⟩ | ⟨h1,r,rfl,h3,h4⟩
  · refine ⟨.vec H.length 0 1,H ++ [Ob.arr [q]],?_,.inr ⟨by simp,H.length,by simp,by rw [jap];rfl,by simp⟩,by simp,fun r hr _=>jac hr,fun r hr=>by simp [objsD] at hr;omega⟩
    simp only [appendD,he,hn,hw,hz,Option.bind_some,hadd,hzn]
    simp [hw0,hqs,headSize,mostBytes]
    exact ⟨hq,by simpa using hm⟩
  · have hne : xs.isEmpty = false:=by simpa using h1
    refine ⟨.vec H.length 0 (xs.length + 1),H.set r Ob.dead ++ [Ob.arr (xs ++ [q])],?_,.inr ⟨by simp,H.length,by simp,?_,by simp⟩,by simp,fun k hk ho=>?_,fun r hr=>by simp [objsD] at hr;omega⟩
    · simp only [appendD,he,hn,hw,hz,Option.bind_some,hadd,hzn]
      simp [hw0,hqs,h3,hx,hne,hm,mostBytes]
    · have:=jap (H:=H.set r Ob.dead) (L:=[Ob.arr (xs ++ [q])])
      rw [List.length_set] at this
      rw [this];rfl
    · rw [jac (by simpa using hk),jaa (by simp [objsD] at ho;omega)]
theorem jbZ {H : Heap} {q : D} (hs : strip q = some q ∨ q = .sl true []) : addedD (H ++ [.arr [q]]) (.vec H.length 0 1) = some ([q],H ++ [.arr [q]]):=by
  rcases hs with hs | rfl
  · have : pures (H ++ [.arr [q]]) [q] = some ([q],H ++ [.arr [q]]):=jaz (by simp [stripL,hs])
    simp [addedD,elems,jap,jbQ,this,puresA,jcw hs]
  · simp [addedD,elems,jap,jbQ,puresA,nilE]
theorem jh6 {H : Heap} {q : D} (hs : strip q = some q) : addedD H (.sl false [q]) = some ([q],H):=by
  have : pures H [q] = some ([q],H):=jaz (by simp [stripL,hs])
  simp [addedD,elems,this,puresA,jcw hs]
end Go.Proofs.W
end
section
namespace Go.Proofs.W
open Go Vm Go.Proofs.Zso
theorem jaR {α : Type} {l : List α} {p i : Nat} {x d : α} : (l.set p x).getD i d = if p = i /\ p < l.length then x else l.getD i d:=by
  simp only [List.getD_eq_getElem?_getD,List.getElem?_set]
  by_cases h : p = i
  · subst h
    by_cases hp : p < l.length
    · simp [hp]
    · simp [hp]
  · simp [h]
theorem jbj {α : Type} {l : List α} {i : Nat} {x d : α} : (l ++ [x]).getD i d = if i = l.length then x else l.getD i d:=by
  simp only [List.getD_eq_getElem?_getD]
  by_cases h : i < l.length
  · rw [List.getElem?_append_left h,if_neg (by omega)]
  · by_cases e : i = l.length
    · subst e;simp
    · rw [List.getElem?_append_right (by omega),if_neg e]
      simp [show ¬ (i - l.length < 1) by omega,List.getElem?_eq_none (show l.length <= i by omega),List.getElem?_eq_none (show [x].length <= i - l.length by simp;omega)]
structure Ms (M : Nat) (ds : List D) (X : List (List D)) (H : Heap) : Prop where
  v : ∀ i,i < ds.length -> VecIs (ds.getD i ud) H (X.getD i [])
  lenX : X.length = ds.length
  ap : Apart (.ptr M 0 0 :: ds)
  m : M < H.length
theorem Ms.notM {M : Nat} {ds : List D} {X : List (List D)} {H : Heap} (h : Ms M ds X H) {i : Nat} : M ∉ objsD (ds.getD i ud):=
  h.ap 0 (i + 1) (by omega) M (by simp [objsD])
theorem Ms.lt {M : Nat} {ds : List D} {X : List (List D)} {H : Heap} (h : Ms M ds X H) {i r : Nat} (hr : r ∈ objsD (ds.getD i ud)) : r < H.length:=by
  rcases Nat.lt_or_ge i ds.length with hi | hi
  · exact jfi (h.v i hi) hr
  · rw [List.getD_eq_getElem?_getD,List.getElem?_eq_none hi] at hr;cases hr
theorem Ms.app {M : Nat} {ds : List D} {X : List (List D)} {H H1 : Heap} (h : Ms M ds X H) {p : Nat} (hp : p < ds.length) {t e : TypeId} {n w : Nat} {z q y : D} (he : elemT Tryz.prog t = some e) (hn : sizeT Tryz.prog e = some n) (hw : bytesT Tryz.prog e = some w) (hz : zeroT Tryz.prog e = some z) (hzn : z.cells.length = n) (hw0 : w ≠ 0)
    (hH : H.length <= H1.length) (hHk : ∀ r,r < H.length -> hget H1 r = hget H r) (hadd : addedD H1 y = some ([q],H1)) (hq : q.cells.length = n) (hx : headSize n (X.getD p []) = true) (hm : ((X.getD p []).length + 1) * w <= 140737488355328) :
    ∃ d' H2,appendD Tryz.prog t H1 (ds.getD p ud) y = some (d',H2) /\ Ms M (ds.set p d') (X.set p (X.getD p [] ++ [q])) H2 /\ hget H2 M = hget H M /\ H1.length <= H2.length /\ (∀ r,r < H.length -> r ∉ objsD (ds.getD p ud) -> hget H2 r = hget H r) /\ (∀ r ∈ objsD d',H.length <= r) /\ d'.cells = [d'] /\ aggQ d' = false /\ noTup d' = true:=by
  obtain ⟨d',H2,h1,h2,h3,h4,h5⟩:=jm1 he hn hw hz hzn hw0 (h.v p hp) hH (fun r hr=>hHk r (h.lt hr)) hadd hq hx hm
  have hk : ∀ r,r < H.length -> r ∉ objsD (ds.getD p ud) -> hget H2 r = hget H r:=fun r hr ho=>by rw [h4 r (by omega) ho,hHk r hr]
  obtain ⟨o1,o2,o3⟩:=jbT h2
  refine ⟨d',H2,h1,⟨fun i hi=>?_,by simp [h.lenX],fun i j hij r hi hj=>?_,by have:=h.m;omega⟩,hk M h.m h.notM,h3,hk,fun r hr=>by have:=h5 r hr;omega,o1,o2,o3⟩
  · rw [jaR,jaR,h.lenX]
    by_cases e : p = i /\ p < ds.length
    · rw [if_pos e,if_pos e];exact h2
    · rw [if_neg e,if_neg e]
      simp at hi
      refine jaQ (h.v i hi) (by omega) fun r hr=>hk r (h.lt hr) ?_
      exact h.ap (i + 1) (p + 1) (by simp [hp] at e;omega) r (by simpa using hr)
  · cases i with
    | zero=>
      cases j with
      | zero=>exact hij rfl
      | succ j=>
        have e0 : r = M:=by simpa [objsD] using hi
        subst e0
        rw [List.getD_cons_succ,jaR] at hj
        split at hj
        · have:=h5 _ hj;have:=h.m;omega
        · exact h.notM hj
    | succ i=>
      cases j with
      | zero=>
        have e0 : r = M:=by simpa [objsD] using hj
        subst e0
        rw [List.getD_cons_succ,jaR] at hi
        split at hi
        · have:=h5 _ hi;have:=h.m;omega
        · exact h.notM hi
      | succ j=>
        simp only [List.getD_cons_succ] at hi hj
        rw [jaR] at hi hj
        split at hi
        · rename_i hpi
          split at hj
          · omega
          · have:=h5 _ hi;have:=h.lt hj;omega
        · split at hj
          · have:=h5 _ hj;have:=h.lt hi;omega
          · exact h.ap (i + 1) (j + 1) hij r (by simpa using hi) (by simpa using hj)
theorem Ms.setM {M : Nat} {ds : List D} {X : List (List D)} {H : Heap} (h : Ms M ds X H) (ob : Ob) : Ms M ds X (H.set M ob):=
  ⟨fun i hi=>jaQ (h.v i hi) (by simp) fun r hr=>jaa (fun e=>h.notM (i:=i) (by rw [e];exact hr)),h.lenX,h.ap,by simpa using h.m⟩
theorem Ms.setv {M : Nat} {ds : List D} {X : List (List D)} {H : Heap} (h : Ms M ds X H) {p r n : Nat} (hp : p < ds.length) (hd : ds.getD p ud = .vec r 0 n) {xs : List D} (hx : xs.length = n) (hn : 0 < n) : Ms M ds (X.set p xs) (H.set r (.arr xs)):=by
  have hr : r ∈ objsD (ds.getD p ud):=by rw [hd];simp [objsD]
  have hrl:=h.lt hr
  refine ⟨fun i hi=>?_,by simp [h.lenX],h.ap,by simpa using h.m⟩
  rw [jaR,h.lenX]
  by_cases e : p = i /\ p < ds.length
  · rw [if_pos e,<- e.1,hd]
    exact .inr ⟨fun h0=>by subst h0;simp at hx;omega,r,by rw [hx],jad hrl,by simpa using hrl⟩
  · rw [if_neg e]
    refine jaQ (h.v i hi) (by simp) fun r' hr'=>jaa fun e2=>?_
    subst e2
    exact h.ap (i + 1) (p + 1) (by simp [hp] at e;omega) _ (by simpa using hr') (by simpa using hr)
theorem Ms.push {M : Nat} {ds : List D} {X : List (List D)} {H : Heap} (h : Ms M ds X H) : Ms M (ds ++ [.sl true []]) (X ++ [[]]) H:=by
  have ho : ∀ i r,r ∈ objsD ((ds ++ [D.sl true []]).getD i ud) -> r ∈ objsD (ds.getD i ud):=fun i r hr=>by
    rw [jbj] at hr
    split at hr
    · cases hr
    · exact hr
  refine ⟨fun i hi=>?_,by simp [h.lenX],fun i j hij r hi hj=>?_,h.m⟩
  · rw [jbj,jbj,h.lenX]
    by_cases e : i = ds.length
    · rw [if_pos e,if_pos e];exact VecIs.nil
    · rw [if_neg e,if_neg e]
      simp at hi
      exact h.v i (by omega)
  · refine h.ap i j hij r ?_ ?_
    · cases i with
      | zero=>exact hi
      | succ i=>exact ho i r hi
    · cases j with
      | zero=>exact hj
      | succ j=>exact ho j r hj
end Go.Proofs.W
end
section
namespace Go.Proofs.W
open Go Vm Go.Proofs.Zso
def nfaX (n : Nfa) (fs : List D) : List (List D):=fs :: n.set.map (.int .u16) :: n.to.map (.int .i64) :: n.rule.map (.int .i64) :: n.free.map fun l=>l.map (.int .i64)
structure MkAt (M : Nat) (n : Nfa) (ds : List D) (H : Heap) : Prop where
  ms : Ms M ds (nfaX n (ds.drop 4)) H
  hM : hget H M = .arr [.agg (ds.take 4)]
  len : 4 <= ds.length
  lS : n.free.length = n.set.length
  lT : n.to.length = n.set.length
  lR : n.rule.length = n.set.length
abbrev mkL (M : Nat) (ds : List D) : List D:=.ptr M 0 0 :: ds
def addState (n : Nfa) : Nfa:=⟨n.free ++ [[]],n.set ++ [0],n.to ++ [0],n.rule ++ [-1]⟩
theorem jda {ds : List D} (h : 4 <= ds.length) : ∃ a b c d fs,ds = a :: b :: c :: d :: fs:=by
  match ds,h with
  | a :: b :: c :: d :: fs,_=>exact ⟨a,b,c,d,fs,rfl⟩
theorem jmB (l : List Int) : headSize 1 (l.map (D.int .u16)) = true:=by cases l <;> rfl
theorem jbz {M : Nat} {ds : List D} {X : List (List D)} {H : Heap} (h : Ms M ds X H) {r : Nat} (hr : own (mkL M ds) r) : r < H.length:=by
  obtain ⟨k,hk⟩:=hr
  cases k with
  | zero => have : r = M := by simpa [objsD] using hk
            subst this;exact h.m
  | succ k=>exact h.lt (i:=k) (by simpa using hk)
theorem jgB (M : Nat) (n : Nfa) (ds : List D) (H : Heap) (h : MkAt M n ds H) (hk : n.set.length <= 100000) :
    EvF Tryz.prog A 85 [.ptr M 0 0] H (fun d H'=>d = .int .i64 n.set.length /\ ∃ ds',MkAt M (addState n) ds' H' /\ Mv6 (mkL M ds) H (mkL M ds') H') (fun _ _=>False):=by
  obtain ⟨ms,hM,hlen,lS,lT,lR⟩:=h
  obtain ⟨dF,dS,dT,dR,fs,rfl⟩:=jda hlen
  have hfl : fs.length = n.free.length:=by have:=ms.lenX;simp [nfaX] at this;omega
  have hfh : headSize 1 fs = true:=by
    cases fs with
    | nil=>rfl
    | cons x fs=>
      have:=(jbT (ms.v 4 (by simp))).1
      simp at this
      simp [headSize,this]
  simp only [List.take_succ_cons,List.take_zero,List.drop_succ_cons,List.drop_zero] at ms hM
  have hMl:=ms.m
  obtain ⟨d1,H1,a1,m1,M1,l1,k1,f1,o1,o2,o3⟩:=ms.app (p:=0) (by simp) (H1:=H ++ [.arr [.sl true []]]) el126 sz23 by23 zr23 rfl (by decide) (by simp) (fun r hr=>jac hr) (jbZ (.inr rfl)) rfl hfh (by simp [nfaX];omega)
  rw [hM] at M1
  have w1:=m1.m
  have c1 : hget (H1.set M (.arr [.agg [d1,dS,dT,dR]])) M = .arr [.agg [d1,dS,dT,dR]]:=jad w1
  have e1 : (H1.set M (.arr [.agg [d1,dS,dT,dR]])).length = H1.length:=by simp
  have z1 : ∀ r,r ≠ M -> hget (H1.set M (.arr [.agg [d1,dS,dT,dR]])) r = hget H1 r:=fun r h=>jaa (Ne.symm h)
  replace m1:=m1.setM (.arr [.agg [d1,dS,dT,dR]])
  generalize hG1 : H1.set M (.arr [.agg [d1,dS,dT,dR]]) = J1 at m1 c1 e1 z1
  obtain ⟨d2,H2,a2,m2,M2,l2,k2,f2,p1,p2,p3⟩:=m1.app (p:=1) (by simp) (H1:=J1 ++ [.arr [.int .u16 0]]) el127 sz43 by43 zr43 rfl (by decide) (by simp) (fun r hr=>jac hr) (jbZ (.inl rfl)) rfl (by simpa [nfaX] using jmB n.set) (by simp [nfaX];omega)
  rw [c1] at M2
  have w2:=m2.m
  have c2 : hget (H2.set M (.arr [.agg [d1,d2,dT,dR]])) M = .arr [.agg [d1,d2,dT,dR]]:=jad w2
  have e2 : (H2.set M (.arr [.agg [d1,d2,dT,dR]])).length = H2.length:=by simp
  have z2 : ∀ r,r ≠ M -> hget (H2.set M (.arr [.agg [d1,d2,dT,dR]])) r = hget H2 r:=fun r h=>jaa (Ne.symm h)
  replace m2:=m2.setM (.arr [.agg [d1,d2,dT,dR]])
  generalize hG2 : H2.set M (.arr [.agg [d1,d2,dT,dR]]) = J2 at m2 c2 e2 z2
  obtain ⟨d3,H3,a3,m3,M3,l3,k3,f3,q1,q2,q3⟩:=m2.app (p:=2) (by simp) (H1:=J2 ++ [.arr [.int .i64 0]]) el23 sz3 by3 zr3 rfl (by decide) (by simp) (fun r hr=>jac hr) (jbZ (.inl rfl)) rfl (by simpa [nfaX] using jba n.to) (by simp [nfaX];omega)
  rw [c2] at M3
  have w3:=m3.m
  have c3 : hget (H3.set M (.arr [.agg [d1,d2,d3,dR]])) M = .arr [.agg [d1,d2,d3,dR]]:=jad w3
  have e3 : (H3.set M (.arr [.agg [d1,d2,d3,dR]])).length = H3.length:=by simp
  have z3 : ∀ r,r ≠ M -> hget (H3.set M (.arr [.agg [d1,d2,d3,dR]])) r = hget H3 r:=fun r h=>jaa (Ne.symm h)
  replace m3:=m3.setM (.arr [.agg [d1,d2,d3,dR]])
  generalize hG3 : H3.set M (.arr [.agg [d1,d2,d3,dR]]) = J3 at m3 c3 e3 z3
  obtain ⟨d4,H4,a4,m4,M4,l4,k4,f4,r1,r2,r3⟩:=m3.app (p:=3) (by simp) (H1:=J3 ++ [.arr [.int .i64 (-1)]]) el23 sz3 by3 zr3 rfl (by decide) (by simp) (fun r hr=>jac hr) (jbZ (.inl rfl)) rfl (by simpa [nfaX] using jba n.rule) (by simp [nfaX];omega)
  rw [c3] at M4
  have w4:=m4.m
  have c4 : hget (H4.set M (.arr [.agg [d1,d2,d3,d4]])) M = .arr [.agg [d1,d2,d3,d4]]:=jad w4
  have e4 : (H4.set M (.arr [.agg [d1,d2,d3,d4]])).length = H4.length:=by simp
  have z4 : ∀ r,r ≠ M -> hget (H4.set M (.arr [.agg [d1,d2,d3,d4]])) r = hget H4 r:=fun r h=>jaa (Ne.symm h)
  replace m4:=m4.setM (.arr [.agg [d1,d2,d3,d4]])
  generalize hG4 : H4.set M (.arr [.agg [d1,d2,d3,d4]]) = J4 at m4 c4 e4 z4
  have m5:=m4.push
  simp only [List.set_cons_zero,List.set_cons_succ,List.getD_cons_zero,List.getD_cons_succ,nfaX,List.cons_append] at m5 a1 a2 a3 a4
  obtain ⟨rS,hdS,hgS,hrS⟩:=jb0 (m5.v 1 (by simp)) (by simp)
  simp only [List.getD_cons_zero,List.getD_cons_succ,List.length_append,List.length_map,List.length_cons,List.length_nil] at hdS hgS
  have hlen2 : ∀ HH,lenU (some (TypeDesc.slice 43)) HH d2 = some (n.set.length + 1):=fun HH=>by rw [hdS];rfl
  clear hdS hgS hrS rS
  have htail : ∃ ds',MkAt M (addState n) ds' J4 /\ Mv6 (mkL M (dF :: dS :: dT :: dR :: fs)) H (mkL M ds') J4:=by
    have o1' : ∀ r,own (mkL M (dF :: dS :: dT :: dR :: fs)) r -> r < H.length:=fun r hr=>jbz ms hr
    have no : ∀ r,r < H.length -> ¬ own (mkL M (dF :: dS :: dT :: dR :: fs)) r -> r ≠ M /\ ∀ i,r ∉ objsD ((dF :: dS :: dT :: dR :: fs).getD i ud):=fun r hr ho=>⟨fun e=>ho ⟨0,by simp [objsD,e]⟩,fun i hi=>ho ⟨i + 1,by simpa using hi⟩⟩
    have n1:=no
    refine ⟨d1 :: d2 :: d3 :: d4 :: (fs ++ [.sl true []]),⟨?_,by simpa using c4,by simp,by simp [addState,lS],by simp [addState,lT],by simp [addState,lR]⟩,⟨fun r hr ho=>?_,by simp at l1 l2 l3 l4;omega,fun r hr=>?_⟩⟩
    · simpa [nfaX,addState] using m5
    · obtain ⟨hrM,hi⟩:=no r hr ho
      simp only [List.set_cons_zero,List.set_cons_succ,List.getD_cons_zero,List.getD_cons_succ] at k1 k2 k3 k4 f1 f2 f3 f4
      simp at l1 l2 l3 l4
      rw [z4 r hrM,k4 r (by omega) (by simpa using hi 3),z3 r hrM,k3 r (by omega) (by simpa using hi 2),z2 r hrM,k2 r (by omega) (by simpa using hi 1),z1 r hrM,k1 r hr (by simpa using hi 0)]
    · obtain ⟨k,hk'⟩:=hr
      simp at l1 l2 l3 l4
      match k,hk' with
      | 0,hk'=>exact .inl ⟨0,hk'⟩
      | 1,hk'=>exact .inr (f1 r (by simpa using hk'))
      | 2,hk'=>have:=f2 r (by simpa using hk');exact .inr (by omega)
      | 3,hk'=>have:=f3 r (by simpa using hk');exact .inr (by omega)
      | 4,hk'=>have:=f4 r (by simpa using hk');exact .inr (by omega)
      | k + 5,hk'=>
        have h5 : r ∈ objsD ((fs ++ [D.sl true []]).getD k ud):=by simpa using hk'
        rw [jbj] at h5
        split at h5
        · cases h5
        · exact .inl ⟨k + 5,by simpa using h5⟩
  clear m1 m2 m3 m4 m5 k1 k2 k3 k4 f1 f2 f3 f4 hfh e1 e2 e3 e4 z1 z2 z3 z4 l1 l2 l3 l4 ms w1 w2 w3 w4
  refine jaj (n:=54) (rs:=[.tmp 2]) Tryz.func85 rfl rfl rfl rfl rfl rfl ?_
  (refine wz1 ?_;refine wz2 ?_;simp -dsimp (maxSteps:=999999) (disch:=omega) only[go_sem,simprocAttr, *])
  (refine wz1 ?_;refine wz2 ?_;simp -dsimp (maxSteps:=999999) (disch:=omega) only[go_sem,simprocAttr, *])
  (refine wz1 ?_;refine wz2 ?_;simp -dsimp (maxSteps:=999999) (disch:=omega) only[go_sem,simprocAttr, *])
  (refine wz1 ?_;refine wz2 ?_;simp -dsimp (maxSteps:=999999) (disch:=omega) only[go_sem,simprocAttr, *])
  (refine wz1 ?_;refine wz2 ?_;simp -dsimp (maxSteps:=999999) (disch:=omega) only[go_sem,simprocAttr, *])
  clear a1 a2 a3 a4 hG1 hG2 hG3 hG4 M1 M2 M3 M4 c1 c2 c3
  repeat' (first | apply wz1|apply wz2|apply wz3|apply wz4|apply wz5|apply wz6 | simp -dsimp (maxSteps:=999999) (disch:=omega) only[go_sem,simprocAttr, *])
  try exact htail
end Go.Proofs.W
end
section
namespace Go.Proofs.W
open Go Vm Go.Proofs.Zso
def addFree (n : Nfa) (f : Nat) (t : Int) : Nfa:={ n with free:=n.free.set f (n.free.getD f [] ++ [t]) }
theorem jbC (n : Nfa) (f : Nat) (t : Int) : (addFree n f t).set = n.set /\ (addFree n f t).free.length = n.free.length:=⟨rfl,by simp [addFree]⟩
theorem jm2 (M : Nat) (n : Nfa) (ds : List D) (H : Heap) (h : MkAt M n ds H) (hk : n.set.length <= 100000) (f : Nat) (hf : f < n.set.length) (t : Int) (hfl : (n.free.getD f []).length <= 100000) :
    EvF Tryz.prog A 87 [.ptr M 0 0,.int .i64 f,.int .i64 t] H (fun _ H'=>∃ ds',MkAt M (addFree n f t) ds' H' /\ Mv6 (mkL M ds) H (mkL M ds') H') (fun _ _=>False):=by
  obtain ⟨ms,hM,hlen,lS,lT,lR⟩:=h
  obtain ⟨dF,dS,dT,dR,fs,rfl⟩:=jda hlen
  have hfl2 : fs.length = n.free.length:=by have:=ms.lenX;simp [nfaX] at this;omega
  simp only [List.take_succ_cons,List.take_zero,List.drop_succ_cons,List.drop_zero] at ms hM
  have hMl:=ms.m
  have hpf : f + 4 < (dF :: dS :: dT :: dR :: fs).length:=by simp;omega
  have hget4 : (nfaX n fs).getD (f + 4) [] = (n.free.getD f []).map (.int .i64):=by
    simp only [nfaX,List.getD_cons_succ]
    simp only [List.getD_eq_getElem?_getD,List.getElem?_map]
    cases n.free[f]? <;> rfl
  obtain ⟨rF,hdF,hgF,hrF⟩:=jb0 (ms.v 0 (by simp)) (by simp [nfaX];intro e;rw [e] at hfl2;simp at hfl2;omega)
  simp only [List.getD_cons_zero,nfaX] at hdF hgF
  obtain ⟨dE,hE⟩ : ∃ dE,fs[f]? = some dE:=⟨fs[f],List.getElem?_eq_getElem (by omega)⟩
  have hE2 : (dF :: dS :: dT :: dR :: fs).getD (f + 4) ud = dE:=by simp [List.getD,hE]
  have vE:=ms.v (f + 4) hpf
  rw [hE2,hget4] at vE
  obtain ⟨o1,o2,o3⟩:=jbT vE
  obtain ⟨d1,H1,a1,m1,M1,l1,k1,f1,p1,p2,p3⟩:=ms.app (p:=f + 4) hpf (H1:=H) el23 sz3 by3 zr3 rfl (by decide) (by simp) (fun r hr=>rfl) (jh6 rfl) rfl (by rw [hget4];exact jba _) (by rw [hget4,List.length_map];omega) (q:=.int .i64 t) (y:=.sl false [.int .i64 t])
  rw [hE2] at a1 k1
  have hfs : 0 < fs.length:=by omega
  have rF_E : rF ∉ objsD dE:=by
    have:=ms.ap 1 (f + 5) (by omega) rF (by simp [hdF,objsD])
    rw [show (D.ptr M 0 0 :: dF :: dS :: dT :: dR :: fs).getD (f + 5) ud = dE from by simpa using hE2] at this
    exact this
  have M_E : M ∉ objsD dE:=by have:=ms.notM (i:=f + 4);rwa [hE2] at this
  have hF1:=k1 rF hrF rF_E
  rw [hgF] at hF1
  rw [hM] at M1
  have hne : ∀ x ∈ objsD dE,x ≠ M:=fun x hx e=>M_E (by rw [<- e];exact hx)
  have hne2 : ∀ x ∈ objsD d1,x ≠ M:=fun x hx e=>by have:=f1 x hx;omega
  have hvo : vecO (.arr fs) 1 = true:=jcE (fun e=>by rw [e] at hfs;simp at hfs) (by
    cases fs with
    | nil=>rfl
    | cons x fs=>
      have:=(jbT (ms.v 4 (by simp))).1
      simp at this
      simp [headSize,this])
  have hds : (dF :: dS :: dT :: dR :: fs).set (f + 4) d1 = dF :: dS :: dT :: dR :: fs.set f d1:=by simp
  rw [hds] at m1
  have m2:=m1.setv (p:=0) (r:=rF) (n:=fs.length) (by simp) (by simpa using hdF) (xs:=fs.set f d1) (by simp) hfs
  have hX : ((nfaX n fs).set (f + 4) ((nfaX n fs).getD (f + 4) [] ++ [D.int IntKind.i64 t])).set 0 (fs.set f d1) = nfaX (addFree n f t) (fs.set f d1):=by
    rw [hget4]
    simp only [nfaX,addFree,List.set_cons_succ,List.set_cons_zero,List.map_set,List.map_append,List.map_cons,List.map_nil]
  rw [hX] at m2
  have hF0 : rF ≠ M:=fun e=>ms.notM (i:=0) (by simp [hdF,objsD,e])
  obtain ⟨dsN,hdN⟩ : ∃ dsN,dsN = dF :: dS :: dT :: dR :: fs.set f d1:=⟨_,rfl⟩
  have hMk : MkAt M (addFree n f t) dsN (H1.set rF (.arr (fs.set f d1))):=by
    rw [hdN]
    refine ⟨by simpa using m2,?_,by simp,by simpa [addFree] using lS,lT,lR⟩
    rw [jaa hF0,M1];rfl
  have hMv : Mv6 (mkL M (dF :: dS :: dT :: dR :: fs)) H (mkL M dsN) (H1.set rF (.arr (fs.set f d1))):=by
    rw [hdN]
    refine ⟨fun r hr ho=>?_,by simpa using l1,fun r hr=>?_⟩
    · rw [jaa (fun e=>ho ⟨1,by simp [hdF,objsD,<- e]⟩),k1 r hr fun h=>ho ⟨f + 5,by simpa [hE] using h⟩]
    · obtain ⟨k,hk'⟩:=hr
      match k,hk' with
      | 0,hk'=>exact .inl ⟨0,hk'⟩
      | 1,hk'=>exact .inl ⟨1,hk'⟩
      | 2,hk'=>exact .inl ⟨2,hk'⟩
      | 3,hk'=>exact .inl ⟨3,hk'⟩
      | 4,hk'=>exact .inl ⟨4,hk'⟩
      | k + 5,hk'=>
        have h5 : r ∈ objsD ((fs.set f d1).getD k ud):=by simpa using hk'
        rw [jaR] at h5
        split at h5
        · exact .inr (f1 r h5)
        · exact .inl ⟨k + 5,by simpa using h5⟩
  clear m1 m2 hX hds hdN
  refine jaj (n:=24) (rs:=[]) Tryz.func87 rfl rfl rfl rfl rfl rfl ?_
  refine jao (prs:=[([19,22],[9])]) (by kernel_rfl) rfl (by kernel_rfl) ?_
  subst hdF
  simp -dsimp (maxSteps:=999999) (disch:=omega) only[go_sem,simprocAttr, *]
  have e9 : fs.length = n.set.length:=by omega
  rw [e9] at hMv
  refine ⟨rfl,disP_iff.2 fun x hx y hy=>?_,dsN,hMk,hMv⟩
  have : y = M:=by simpa using hy
  subst this
  rcases List.mem_append.1 hx with h | h
  · exact hne x h
  · exact hne2 x h
end Go.Proofs.W
end
section
namespace Go.Proofs.W
open Go Vm Go.Proofs.Zso
def setTo (n : Nfa) (i : Nat) (s : Int) (o : Nat) : Nfa:={ n with set:=n.set.set i s,to:=n.to.set i (o : Int) }
def catW (o : Nat) : Nfa -> Nat -> List (Nat × Nat) -> Nfa
  | n,last,[]=>addFree n last o
  | n,last,p :: r=>catW o (addFree n last p.1) p.2 r
def altW (i o : Nat) : Nfa -> List (Nat × Nat) -> Nfa
  | n,[]=>n
  | n,p :: r=>altW i o (addFree (addFree n i p.1) p.2 o) r
def optW (n : Nfa) (i o a b : Nat) : Nfa:=addFree (addFree (addFree n i a) i o) b o
def wire (k s : Int) (i o : Nat) (ps : List (Nat × Nat)) (n : Nfa) : Nfa:=
  if k = 0 then addFree n i o else if k = 1 then setTo n i s o else if k = 2 then catW o n i ps else if k = 3 then altW i o n ps
  else match ps with
    | []=>n
    | p :: _=>if k = 4 then optW (addFree n p.2 p.1) i o p.1 p.2 else if k = 5 then optW n i o p.1 p.2 else n
mutual
def makeN : Rx -> Nfa -> Nfa × (Nat × Nat)
  | .mk k s l,n=>
    let q:=kidsN l (addState n)
    (wire k s n.set.length q.1.set.length q.2 (addState q.1),(n.set.length,q.1.set.length))
def kidsN : List Rx -> Nfa -> Nfa × List (Nat × Nat)
  | [],n=>(n,[])
  | r :: l,n=>
    let q:=makeN r n
    let z:=kidsN l q.1
    (z.1,q.2 :: z.2)
end
abbrev kN (n : Nfa) : Nat:=n.set.length
theorem jaI (n : Nfa) (f : Nat) (t : Int) : kN (addFree n f t) = kN n:=rfl
theorem ja2 (n : Nfa) : kN (addState n) = kN n + 1:=by simp [kN,addState]
theorem jde (n : Nfa) (i : Nat) (s : Int) (o : Nat) : kN (setTo n i s o) = kN n:=by simp [kN,setTo]
theorem jqv (o : Nat) : ∀ (ps : List (Nat × Nat)) (n : Nfa) (last : Nat),kN (catW o n last ps) = kN n
  | [],_,_=>rfl
  | p :: r,n,last=>by rw [catW,jqv o r];rfl
theorem jo6 (i o : Nat) : ∀ (ps : List (Nat × Nat)) (n : Nfa),kN (altW i o n ps) = kN n
  | [],_=>rfl
  | p :: r,n=>by rw [altW,jo6 i o r];rfl
theorem jxs (k s : Int) (i o : Nat) (ps : List (Nat × Nat)) (n : Nfa) : kN (wire k s i o ps n) = kN n:=by
  unfold wire
  split
  · rfl
  split
  · exact jde ..
  split
  · exact jqv ..
  split
  · exact jo6 ..
  split
  · rfl
  split
  · rfl
  split
  · rfl
  · rfl
def fN (n : Nfa) : Nat:=(n.free.map List.length).sum
theorem le_fN {l : List (List Int)} {f : Nat} : (l.getD f []).length <= (l.map List.length).sum:=by
  induction l generalizing f with
  | nil=>simp
  | cons x l ih=>
    cases f with
    | zero=>simp
    | succ f=>have:=ih (f:=f);simp at this ⊢;omega
theorem jxr {l : List (List Int)} {f : Nat} {t : Int} : ((l.set f (l.getD f [] ++ [t])).map List.length).sum <= (l.map List.length).sum + 1:=by
  induction l generalizing f with
  | nil=>simp
  | cons x l ih=>
    cases f with
    | zero=>simp;omega
    | succ f=>have:=ih (f:=f);simp at this ⊢;omega
theorem jay (n : Nfa) (f : Nat) (t : Int) : fN (addFree n f t) <= fN n + 1:=jxr
theorem jcq (n : Nfa) : fN (addState n) = fN n:=by simp [fN,addState]
theorem juY (n : Nfa) (i : Nat) (s : Int) (o : Nat) : fN (setTo n i s o) = fN n:=rfl
theorem jqI (o : Nat) : ∀ (ps : List (Nat × Nat)) (n : Nfa) (last : Nat),fN (catW o n last ps) <= fN n + ps.length + 1
  | [],n,last=>by have:=jay n last o;simpa [catW] using this
  | p :: r,n,last=>by
    have h1:=jqI o r (addFree n last p.1) p.2
    have h2:=jay n last p.1
    simp only [catW,List.length_cons];omega
theorem jqA (i o : Nat) : ∀ (ps : List (Nat × Nat)) (n : Nfa),fN (altW i o n ps) <= fN n + 2 * ps.length
  | [],n=>by simp [altW]
  | p :: r,n=>by
    have h1:=jqA i o r (addFree (addFree n i p.1) p.2 o)
    have h2:=jay n i p.1
    have h3:=jay (addFree n i p.1) p.2 o
    simp only [altW,List.length_cons];omega
theorem jpl (n : Nfa) (i o a b : Nat) : fN (optW n i o a b) <= fN n + 3:=by
  have h1:=jay n i a
  have h2:=jay (addFree n i a) i o
  have h3:=jay (addFree (addFree n i a) i o) b o
  unfold optW;omega
theorem jxB (k s : Int) (i o : Nat) (ps : List (Nat × Nat)) (n : Nfa) : fN (wire k s i o ps n) <= fN n + 2 * ps.length + 4:=by
  unfold wire
  split
  · have:=jay n i o;omega
  split
  · rw [juY];omega
  split
  · have:=jqI o ps n i;omega
  split
  · have:=jqA i o ps n;omega
  split
  · omega
  split
  · rename_i p _ _
    have h1:=jay n p.2 p.1
    have h2:=jpl (addFree n p.2 p.1) i o p.1 p.2
    omega
  split
  · rename_i p _ _ _
    have h2:=jpl n i o p.1 p.2
    omega
  · omega
mutual
theorem jcH : ∀ (r : Rx) (n : Nfa),kN (makeN r n).1 = kN n + 2 * sizeR r
  | .mk k s l,n=>by
    simp only [makeN,sizeR,jxs,ja2,jcJ l];omega
theorem jcJ : ∀ (l : List Rx) (n : Nfa),kN (kidsN l n).1 = kN n + 2 * sizeL l
  | [],n=>by simp [kidsN,sizeL]
  | r :: l,n=>by simp only [kidsN,sizeL,jcJ l,jcH r];omega
end
theorem jdD : ∀ (l : List Rx) (n : Nfa),(kidsN l n).2.length = l.length
  | [],n=>rfl
  | r :: l,n=>by simp [kidsN,jdD l]
mutual
theorem jhY : ∀ (r : Rx) (n : Nfa),fN (makeN r n).1 + 2 <= fN n + 6 * sizeR r
  | .mk k s l,n=>by
    have h1:=jfA l (addState n)
    have h2:=jxB k s n.set.length (kidsN l (addState n)).1.set.length (kidsN l (addState n)).2 (addState (kidsN l (addState n)).1)
    rw [jdD,jcq] at h2
    rw [jcq] at h1
    simp only [makeN,sizeR];omega
theorem jfA : ∀ (l : List Rx) (n : Nfa),fN (kidsN l n).1 + 2 * l.length <= fN n + 6 * sizeL l
  | [],n=>by simp [kidsN,sizeL]
  | r :: l,n=>by
    have h1:=jhY r n
    have h2:=jfA l (makeN r n).1
    simp only [kidsN,sizeL,List.length_cons];omega
end
theorem jdm (r : Rx) (n : Nfa) : (makeN r n).2 = (kN n,kN n + 2 * sizeR r - 1):=by
  cases r with
  | mk k s l=>
    simp only [makeN,sizeR]
    have h1:=jcJ l (addState n)
    rw [ja2] at h1
    simp only [kN] at h1 ⊢
    rw [Prod.mk.injEq]
    exact ⟨rfl,by omega⟩
theorem jgQ : ∀ (l : List Rx) (n : Nfa),∀ p ∈ (kidsN l n).2,kN n <= p.1 /\ p.1 < kN n + 2 * sizeL l /\ kN n <= p.2 /\ p.2 < kN n + 2 * sizeL l
  | [],n=>by simp [kidsN]
  | r :: l,n=>by
    intro p hp
    simp only [kidsN,List.mem_cons] at hp
    have hpos:=jaG r
    rcases hp with rfl | hp
    · rw [jdm];simp only [sizeL];omega
    · have:=jgQ l (makeN r n).1 p hp
      rw [jcH] at this
      simp only [sizeL];omega
end Go.Proofs.W
end
section
namespace Go.Proofs.W
open Go Vm Go.Proofs.Zso
theorem MkAt.keep {M : Nat} {n : Nfa} {ds : List D} {H H' : Heap} (h : MkAt M n ds H) (hl : H.length <= H'.length) (hk : ∀ r,own (mkL M ds) r -> hget H' r = hget H r) : MkAt M n ds H':=
  ⟨⟨fun i hi=>jaQ (h.ms.v i hi) hl fun r hr=>hk r ⟨i + 1,by simpa using hr⟩,h.ms.lenX,h.ms.ap,by have:=h.ms.m;omega⟩,by rw [hk M ⟨0,by simp [objsD]⟩];exact h.hM,h.len,h.lS,h.lT,h.lR⟩
theorem jhE (r : Rx) : ∀ (a : List Rx) (n : Nfa),kidsN (a ++ [r]) n = ((makeN r (kidsN a n).1).1,(kidsN a n).2 ++ [(makeN r (kidsN a n).1).2])
  | [],n=>by simp [kidsN]
  | x :: a,n=>by simp only [List.cons_append,kidsN,jhE r a]
theorem jdx (b : List Rx) : ∀ (a : List Rx),sizeL (a ++ b) = sizeL a + sizeL b
  | []=>by simp [sizeL]
  | x :: a=>by simp only [List.cons_append,sizeL,jdx b a];omega
def pD (p : Nat × Nat) : D:=.agg [.int .i64 p.1,.int .i64 p.2]
def psD (l : List (Nat × Nat)) : List D:=l.map pD
theorem jr2 (p : Nat × Nat) : strip (pD p) = some (pD p):=rfl
theorem jrs (l : List (Nat × Nat)) : headSize 2 (psD l) = true:=by cases l <;> rfl
def MakeOk (r : Rx) : Prop:=∀ (M : Nat) (n : Nfa) (ds : List D) (H : Heap),MkAt M n ds H -> kN n + 2 * sizeR r <= 90000 -> fN n + 6 * sizeR r <= 90000 ->
  EvF Tryz.prog A 86 [.ptr M 0 0,rxD r] H (fun d H'=>d = .tup [.int .i64 ((makeN r n).2.1 : Nat),.int .i64 ((makeN r n).2.2 : Nat)] /\ ∃ ds',MkAt M (makeN r n).1 ds' H' /\ Mv6 (mkL M ds) H (mkL M ds') H') (fun _ _=>False)
def KidsQ (M : Nat) (n : Nfa) (ds : List D) (H : Heap) (q : Nfa × List (Nat × Nat)) (d : D) (H' : Heap) : Prop:=∃ ds',MkAt M q.1 ds' H' /\ Mv6 (mkL M ds) H (mkL M ds') H' /\ VecIs d H' (psD q.2) /\ ∀ r ∈ objsD d,H.length <= r /\ ¬ own (mkL M ds') r
theorem juO (k s : Int) (l : List Rx) (hl : ∀ r ∈ l,MakeOk r) (hll : l.length <= 100000) (M : Nat) (n : Nfa) (ds : List D) (H : Heap) (h : MkAt M n ds H) (b1 : kN n + 2 * sizeL l <= 90000) (b2 : fN n + 6 * sizeL l <= 90000) :
    EvF Tryz.prog A 107 [.ptr M 0 0,rxD (.mk k s l)] H (fun d H'=>KidsQ M n ds H (kidsN l n) d H') (fun _ _=>False):=by
  have hMl:=h.ms.m
  refine jaj (n:=31) (rs:=[.tmp 4]) Tryz.func107 rfl rfl rfl rfl rfl rfl ?_
  repeat' (first | apply wz1|apply wz2|apply wz3|apply wz4|apply wz5|apply wz6 | simp -dsimp (maxSteps:=999999) (disch:=omega) only[go_sem,simprocAttr, *] | ((first | refine wz8 ?_ ?_|refine wz9 ?_ ?_|refine wz7 ?_ ?_)<;>intro hh <;> (try replace hh:=vqs hh) <;> (try (exfalso;first | exact hh | omega))))
  have hb0 : MkAt M (kidsN (l.take 0) n).1 ds (H ++ [Ob.arr [rxD (.mk k s l)]]):=h.keep (by simp) fun r hr=>jac (jbz h.ms hr)
  refine jae (fun e Hj=>∃ (j : Nat) (dO : D) (dsj : List D),j <= l.length /\ H.length <= Hj.length /\ MkAt M (kidsN (l.take j) n).1 dsj Hj /\ Mv6 (mkL M ds) H (mkL M dsj) Hj /\ VecIs dO Hj (psD (kidsN (l.take j) n).2) /\ (∀ r ∈ objsD dO,H.length <= r /\ ¬ own (mkL M dsj) r)
    /\ e 0 = .ptr M 0 0 /\ e 5 = dO /\ e 11 = .sl false (rxDs l) /\ e 12 = .int .i64 l.length /\ e 13 = .int .i64 j) (fun e H=>l.length - natOf (e 13)) ?_ ?_
  · exact ⟨0,.sl true [],ds,by omega,by simp,by simpa [rx_mk] using hb0,⟨fun r hr _=>jac hr,by simp,fun r hr=>.inl hr⟩,by simpa [kidsN,psD] using VecIs.nil,(fun r hr=>by cases hr),gs,gs,gs,gs,gs⟩
  · clear hb0 h
    rintro e Hj ⟨j,dO,dsj,hj,hlen,hmk,hmv,hvO,hoO,e0,e5,e11,e12,e13⟩ R hR
    by_cases hb : j < l.length
    · have hx : (rxDs l)[j]? = some (rxD l[j]):=by rw [jhW,List.getElem?_eq_getElem hb];rfl
      have q1:=jbf l[j]
      have q2:=jb4 l[j]
      have q3:=jbw l[j]
      have htk:=ja1 hb
      have hsz:=jdx [l[j]] (l.take j)
      have hsz2 : sizeL (l.take (j + 1)) <= sizeL l:=by
        have:=jdx (l.drop (j + 1)) (l.take (j + 1))
        rw [List.take_append_drop] at this;omega
      rw [htk,hsz] at hsz2
      simp only [sizeL] at hsz2
      have hkk:=jcJ (l.take j) n
      have hff:=jfA (l.take j) n
      have hsn:=jhE l[j] (l.take j) n
      rw [<- htk] at hsn
      have hcall:=hl l[j] (List.getElem_mem hb) M (kidsN (l.take j) n).1 dsj (Hj ++ [Ob.arr [rxD l[j]]]) (hmk.keep (by simp) fun r hr=>jac (jbz hmk.ms hr)) (by omega) (by omega)
      generalize hw : rxD l[j] = dk at *
      clear hw
      repeat' (first | apply wz1|apply wz2|apply wz3|apply wz4|apply wz5|apply wz6 | simp -dsimp (maxSteps:=999999) (disch:=omega) only[go_sem,simprocAttr, *] | ((first | refine wz8 ?_ ?_|refine wz9 ?_ ?_|refine wz7 ?_ ?_)<;>intro hh <;> (try replace hh:=vqs hh) <;> (try (exfalso;first | exact hh | omega))))
      refine jag bo86 rfl rfl hcall ?_ (fun _ _ h=>h.elim)
      rintro _ H2 ⟨rfl,ds2,hmk2,hmv2⟩
      have hlen2:=hmv2.len
      simp only [List.length_append,List.length_cons,List.length_nil] at hlen2
      have hltO : ∀ r ∈ objsD dO,r < Hj.length:=fun r hr=>jfi hvO hr
      have hvO2 : VecIs dO H2 (psD (kidsN (l.take j) n).2):=jaQ hvO (by omega) fun r hr=>by
        rw [hmv2.keep r (by simp;have:=hltO r hr;omega) (hoO r hr).2,jac (hltO r hr)]
      have hoO2 : ∀ r ∈ objsD dO,¬ own (mkL M ds2) r:=fun r hr ho=>by
        rcases hmv2.ow r ho with h | h
        · exact (hoO r hr).2 h
        · have:=hltO r hr;simp at h;omega
      obtain ⟨d3,H3,a3,v3,l3,k3,f3⟩:=jm1 (H0:=H2) (H:=H2 ++ [.arr [pD (makeN l[j] (kidsN (l.take j) n).1).2]]) el172 sz174 by174 zr174 rfl (by decide) hvO2 (by simp) (fun r hr=>jac (by have:=hltO r hr;omega)) (jbZ (.inl (jr2 _))) rfl (jrs _) (by simp [psD,jdD];omega)
      simp only [List.length_append,List.length_cons,List.length_nil] at l3
      have hmk3 : MkAt M (kidsN (l.take (j + 1)) n).1 ds2 H3:=by
        rw [hsn]
        exact hmk2.keep (by omega) fun r hr=>by
          have hlt:=jbz hmk2.ms hr
          rw [k3 r (by simp;omega) (fun h=>hoO2 r h hr),jac hlt]
      have hmv3 : Mv6 (mkL M ds) H (mkL M ds2) H3:=by
        refine ⟨fun r hr ho=>?_,by omega,fun r ho=>?_⟩
        · have n1 : r ∉ objsD dO:=fun h=>by have:=(hoO r h).1;omega
          have n2 : ¬ own (mkL M dsj) r:=fun h=>by
            rcases hmv.ow r h with h | h
            · exact ho h
            · omega
          rw [k3 r (by simp;omega) n1,jac (by omega),hmv2.keep r (by simp;omega) n2,jac (by omega),hmv.keep r hr ho]
        · rcases hmv2.ow r ho with h | h
          · exact hmv.ow r h
          · exact .inr (by simp at h;omega)
      have v3' : VecIs d3 H3 (psD (kidsN (l.take (j + 1)) n).2):=by
        rw [hsn]
        simpa [psD] using v3
      have ho3 : ∀ r ∈ objsD d3,H.length <= r /\ ¬ own (mkL M ds2) r:=fun r hr=>by
        have:=f3 r hr
        simp at this
        exact ⟨by omega,fun ho=>by have:=jbz hmk2.ms ho;omega⟩
      simp only [pD] at a3
      clear hsn hkk hff
      repeat' (first | apply wz1|apply wz2|apply wz3|apply wz4|apply wz5|apply wz6 | simp -dsimp (maxSteps:=999999) (disch:=omega) only[go_sem,simprocAttr, *] | ((first | refine wz8 ?_ ?_|refine wz9 ?_ ?_|refine wz7 ?_ ?_)<;>intro hh <;> (try replace hh:=vqs hh) <;> (try (exfalso;first | exact hh | omega))))
      refine hR _ _ ⟨j + 1,d3,ds2,by omega,by omega,hmk3,hmv3,v3',ho3,gs,gs,gs,gs,gs⟩ ?_
      simp -dsimp (maxSteps:=999999) (disch:=omega) only[go_sem,simprocAttr, *,jab]
    · repeat' (first | apply wz1|apply wz2|apply wz3|apply wz4|apply wz5|apply wz6 | simp -dsimp (maxSteps:=999999) (disch:=omega) only[go_sem,simprocAttr, *] | ((first | refine wz8 ?_ ?_|refine wz9 ?_ ?_|refine wz7 ?_ ?_)<;>intro hh <;> (try replace hh:=vqs hh) <;> (try (exfalso;first | exact hh | omega))))
      rw [List.take_of_length_le (by omega)] at hmk hvO
      exact ⟨dsj,hmk,hmv,hvO,hoO⟩
end Go.Proofs.W
end
section
namespace Go.Proofs.W
open Go Vm Go.Proofs.Zso
theorem fl_le (n : Nfa) (f : Nat) : (n.free.getD f []).length <= fN n:=le_fN
structure Held (M : Nat) (H : Heap) (L : List D) (q : Nat) (r : Rx) (dK : D) (ps : List (Nat × Nat)) (n : Nfa) (ds : List D) (H' : Heap) : Prop where
  ma : MkAt M n ds H'
  mv : Mv6 L H (mkL M ds) H'
  hq : hget H' q = .arr [rxD r]
  hl : H.length <= q
  nq : ¬ own (mkL M ds) q
  ql : q < H'.length
  vK : VecIs dK H' (psD ps)
  nK : ∀ r ∈ objsD dK,H.length <= r /\ ¬ own (mkL M ds) r
theorem Held.next {M : Nat} {H : Heap} {L : List D} {q : Nat} {r : Rx} {dK : D} {ps : List (Nat × Nat)} {n n' : Nfa} {ds ds' : List D} {H1 H2 : Heap} (h : Held M H L q r dK ps n ds H1) (hm : MkAt M n' ds' H2) (hv : Mv6 (mkL M ds) H1 (mkL M ds') H2) : Held M H L q r dK ps n' ds' H2:=by
  refine ⟨hm,h.mv.trans hv,by rw [hv.keep q h.ql h.nq,h.hq],h.hl,fun ho=>?_,by have:=hv.len;have:=h.ql;omega,jaQ h.vK hv.len fun r hr=>hv.keep r (jfi h.vK hr) (h.nK r hr).2,fun r hr=>⟨(h.nK r hr).1,fun ho=>?_⟩⟩
  · rcases hv.ow q ho with h1 | h1
    · exact h.nq h1
    · have:=h.ql;omega
  · rcases hv.ow r ho with h1 | h1
    · exact (h.nK r hr).2 h1
    · have:=jfi h.vK hr;omega
theorem Held.grow {M : Nat} {H : Heap} {L : List D} {q : Nat} {r : Rx} {dK : D} {ps : List (Nat × Nat)} {n : Nfa} {ds : List D} {H1 : Heap} (h : Held M H L q r dK ps n ds H1) (ob : List Ob) : Held M H L q r dK ps n ds (H1 ++ ob):=
  ⟨h.ma.keep (by simp) fun r hr=>jac (jbz h.ma.ms hr),⟨fun r hr ho=>by rw [jac (by have:=h.mv.len;omega),h.mv.keep r hr ho],by have:=h.mv.len;simp;omega,h.mv.ow⟩,by rw [jac h.ql];exact h.hq,h.hl,h.nq,by have:=h.ql;simp;omega,jaQ h.vK (by simp) fun r hr=>jac (jfi h.vK hr),h.nK⟩
theorem Held.free {M : Nat} {H : Heap} {L : List D} {q : Nat} {r : Rx} {dK : D} {ps : List (Nat × Nat)} {n : Nfa} {ds : List D} {H1 : Heap} (h : Held M H L q r dK ps n ds H1) (f : Nat) (hf : f < kN n) (t : Int) (bk : kN n <= 100000) (bf : fN n <= 100000) :
    EvF Tryz.prog A 87 [.ptr M 0 0,.int .i64 f,.int .i64 t] H1 (fun _ H'=>∃ ds',Held M H L q r dK ps (addFree n f t) ds' H' /\ Mv6 (mkL M ds) H1 (mkL M ds') H') (fun _ _=>False):=
  (jm2 M n ds H1 h.ma bk f hf t (by have:=fl_le n f;omega)).mono (fun _ _ ⟨ds',h1,h2⟩=>⟨ds',h.next h1 h2,h2⟩) (fun _ _ h=>h)
theorem jhG {d : D} {H : Heap} {ps : List (Nat × Nat)} {j : Nat} (h : VecIs d H (psD ps)) (hj : j < ps.length) : ∃ r,d = .vec r 0 ps.length /\ hget H r = .arr (psD ps) /\ r < H.length /\ (psD ps)[j]? = some (pD ps[j]) /\ vecO (.arr (psD ps)) 2 = true:=by
  have hne : psD ps ≠ []:=by intro e;have:=congrArg List.length e;simp [psD] at this;subst this;simp at hj
  obtain ⟨r,h1,h2,h3⟩:=jb0 h hne
  exact ⟨r,by simpa [psD] using h1,h2,h3,by simp [psD,hj],jcE hne (jrs _)⟩
theorem jfl {rK o m : Nat} {H : Heap} {xs : List D} (h : VecIs (.vec rK o m) H xs) : hget H rK = .arr xs /\ rK < H.length:=by
  rcases h with ⟨_,h⟩ | ⟨_,r,h,h2,h3⟩
  · cases h
  · cases h;exact ⟨h2,h3⟩
theorem jgu : ∀ l : List Rx,l.length <= sizeL l
  | []=>Nat.le_refl _
  | r :: l=>by have:=jgu l;have:=jaG r;simp only [List.length_cons,sizeL];omega
theorem jv6 : ∀ (m : Nat) (r : Rx),depth r <= m -> shapesR r = true -> okR r -> MakeOk r:=by
  intro m
  induction m with
  | zero=>intro r h;cases r;simp [depth] at h
  | succ m ih=>
    rintro ⟨k,s,l⟩ hd hs hr M n ds H h b1 b2
    have hkids : ∀ x ∈ l,MakeOk x:=by
      intro x hx
      simp only [shapesR,Bool.and_eq_true,jc3,List.all_eq_true] at hs
      refine ih x ?_ (hs.2 x hx) (jbq hr.2.2.2.2.2 x hx)
      simp only [depth] at hd
      have : ∀ (l : List Rx),x ∈ l -> depth x <= depthL l:=by
        intro l
        induction l with
        | nil=>intro h;cases h
        | cons y l ih=>
          intro h
          simp only [depthL]
          rcases List.mem_cons.1 h with rfl | h
          · omega
          · have:=ih h;omega
      have:=this l hx
      omega
    simp only [shapesR,Bool.and_eq_true,shape1] at hs
    obtain ⟨hsh,hsl⟩:=hs
    simp only [sizeR] at b1 b2
    have hMl:=h.ms.m
    have hS1:=jgB M n ds (H ++ [Ob.arr [rxD (.mk k s l)]]) (h.keep (by simp) fun r hr=>jac (jbz h.ms hr)) (by simp only [kN] at b1;omega)
    have q1:=jbf (.mk k s l)
    have q2:=jb4 (.mk k s l)
    have q3:=jbw (.mk k s l)
    refine jaj (n:=122) (rs:=[.tmp 4,.tmp 5]) Tryz.func86 rfl rfl rfl rfl rfl rfl ?_
    simp only [rx_mk] at hS1
    repeat' (first | apply wz1|apply wz2|apply wz3|apply wz4|apply wz5|apply wz6 | simp -dsimp (maxSteps:=999999) (disch:=omega) only[go_sem,simprocAttr, *] | ((first | refine wz8 ?_ ?_|refine wz9 ?_ ?_|refine wz7 ?_ ?_)<;>intro hh <;> (try replace hh:=vqs hh) <;> (try (exfalso;first | exact hh | omega))))
    refine jag bo85 rfl rfl hS1 ?_ (fun _ _ h=>h.elim)
    rintro _ H1 ⟨rfl,ds1,hm1,hv1⟩
    have hv1l:=hv1.len
    simp only [List.length_append,List.length_cons,List.length_nil] at hv1l
    have hq1 : hget H1 H.length = .arr [rxD (.mk k s l)]:=by
      rw [hv1.keep H.length (by simp) (fun ho=>by have:=jbz h.ms ho;omega),jap];rfl
    have hnq1 : ¬ own (mkL M ds1) H.length:=fun ho=>by
      rcases hv1.ow _ ho with h1 | h1
      · have:=jbz h.ms h1;omega
      · simp at h1;omega
    have hK:=juO k s l hkids (by have:=jgu l;omega) M (addState n) ds1 H1 hm1 (by rw [ja2];omega) (by rw [jcq];omega)
    simp only [rx_mk] at hq1 hK
    repeat' (first | apply wz1|apply wz2|apply wz3|apply wz4|apply wz5|apply wz6 | simp -dsimp (maxSteps:=999999) (disch:=omega) only[go_sem,simprocAttr, *] | ((first | refine wz8 ?_ ?_|refine wz9 ?_ ?_|refine wz7 ?_ ?_)<;>intro hh <;> (try replace hh:=vqs hh) <;> (try (exfalso;first | exact hh | omega))))
    refine jag bo107 rfl rfl hK ?_ (fun _ _ h=>h.elim)
    rintro dK H2 ⟨ds2,hm2,hv2,hvK,hnK⟩
    have hv2l:=hv2.len
    have hH2 : Held M H (mkL M ds) H.length (.mk k s l) dK (kidsN l (addState n)).2 (kidsN l (addState n)).1 ds2 H2:=by
      refine ⟨hm2,?_,by rw [hv2.keep _ (by omega) hnq1,hq1];rfl,Nat.le_refl _,fun ho=>?_,by omega,hvK,fun r hr=>⟨by have:=(hnK r hr).1;omega,(hnK r hr).2⟩⟩
      · refine Mv6.trans ⟨fun r hr ho=>?_,by omega,fun r ho=>?_⟩ hv2
        · rw [hv1.keep r (by simp;omega) ho,jac hr]
        · rcases hv1.ow r ho with h1 | h1
          · exact .inl h1
          · exact .inr (by simp at h1;omega)
      · rcases hv2.ow _ ho with h1 | h1
        · exact hnq1 h1
        · omega
    have hkk:=jcJ l (addState n)
    have hff:=jfA l (addState n)
    have hin:=jgQ l (addState n)
    rw [ja2] at hkk hin
    rw [jcq] at hff
    have hlen:=jdD l (addState n)
    have hmake : makeN (.mk k s l) n = (wire k s n.set.length (kidsN l (addState n)).1.set.length (kidsN l (addState n)).2 (addState (kidsN l (addState n)).1),(n.set.length,(kidsN l (addState n)).1.set.length)):=by rw [makeN]
    rw [hmake]
    clear hmake hK hS1 hnK hvK hv1 hq1 hnq1 hm1 hkids hv2
    generalize hQ : kidsN l (addState n) = Q at *
    obtain ⟨n2,ps⟩:=Q
    clear hQ
    simp only at hH2 hkk hff hin hlen hm2 ⊢
    have hS2:=jgB M n2 ds2 H2 hm2 (by simp only [kN] at hkk b1;omega)
    repeat' (first | apply wz1|apply wz2|apply wz3|apply wz4|apply wz5|apply wz6 | simp -dsimp (maxSteps:=999999) (disch:=omega) only[go_sem,simprocAttr, *] | ((first | refine wz8 ?_ ?_|refine wz9 ?_ ?_|refine wz7 ?_ ?_)<;>intro hh <;> (try replace hh:=vqs hh) <;> (try (exfalso;first | exact hh | omega))))
    refine jag bo85 rfl rfl hS2 ?_ (fun _ _ h=>h.elim)
    rintro _ H3 ⟨rfl,ds3,hm3,hv3⟩
    have hH3:=hH2.next hm3 hv3
    have hq3:=hH3.hq
    simp only [rx_mk] at hq3
    have hk3:=ja2 n2
    have hf3:=jcq n2
    clear hS2 hm2 hH2 hv3 hv2l hv1l hm3
    obtain ⟨hr1,hr2,hr3,hr4,hr5,hr6⟩:=hr
    have u1 : n.set.length + 1 + 2 * sizeL l <= n2.set.length:=by simp only [kN] at hkk;omega
    have u2 : n2.set.length <= n.set.length + 1 + 2 * sizeL l:=by simp only [kN] at hkk;omega
    have u3 : (addState n2).set.length <= n2.set.length + 1:=by simp only [kN] at hk3;omega
    have u4 : n2.set.length + 1 <= (addState n2).set.length:=by simp only [kN] at hk3;omega
    have u5 : fN (addState n2) + 2 * ps.length + 6 <= 90000:=by omega
    have u6 : ps.length <= l.length /\ l.length <= ps.length:=by omega
    have u7 : n.set.length + 2 * sizeL l + 2 <= 90000:=by simp only [kN] at b1;omega
    have u8 : l.length <= sizeL l:=jgu l
    have hin' : ∀ p ∈ ps,p.1 < n2.set.length /\ p.2 < n2.set.length:=fun p hp=>by have:=hin p hp;simp only [kN] at this;omega
    clear hkk hk3 hf3 hlen hin hff b1 b2
    have hneK : ∀ HH,lenU (some (TypeDesc.slice 174)) HH dK = some ps.length:=fun HH=>by
      rcases hH3.vK with ⟨e1,rfl⟩ | ⟨e1,r,rfl,-,-⟩
      · have : ps = []:=by simpa [psD] using e1
        subst this;rfl
      · simp [lenU,psD]
    by_cases h0 : k = 0
    · subst h0
      have hF:=hH3.free n.set.length (by simp only [kN];omega) (n2.set.length : Int) (by simp only [kN];omega) (by omega)
      repeat' (first | apply wz1|apply wz2|apply wz3|apply wz4|apply wz5|apply wz6 | simp -dsimp (maxSteps:=999999) (disch:=omega) only[go_sem,simprocAttr, *] | ((first | refine wz8 ?_ ?_|refine wz9 ?_ ?_|refine wz7 ?_ ?_)<;>intro hh <;> (try replace hh:=vqs hh) <;> (try (exfalso;first | exact hh | omega))))
      refine jag bo87 rfl rfl hF ?_ (fun _ _ h=>h.elim)
      rintro _ H4 ⟨ds4,hH4,-⟩
      repeat' (first | apply wz1|apply wz2|apply wz3|apply wz4|apply wz5|apply wz6 | simp -dsimp (maxSteps:=999999) (disch:=omega) only[go_sem,simprocAttr, *] | ((first | refine wz8 ?_ ?_|refine wz9 ?_ ?_|refine wz7 ?_ ?_)<;>intro hh <;> (try replace hh:=vqs hh) <;> (try (exfalso;first | exact hh | omega))))
      exact ⟨rfl,ds4,by simpa [wire] using hH4.ma,hH4.mv⟩
    by_cases h1 : k = 1
    · subst h1
      obtain ⟨ms,hM,hdl,lS,lT,lR⟩:=hH3.ma
      obtain ⟨dF,dS,dT,dR,fs,rfl⟩:=jda hdl
      simp only [List.take_succ_cons,List.take_zero,List.drop_succ_cons,List.drop_zero] at ms hM
      have hneS : (addState n2).set.map (D.int .u16) ≠ []:=by intro e;have:=congrArg List.length e;simp at this;rw [this] at u4;simp at u4
      have hneT : (addState n2).to.map (D.int .i64) ≠ []:=by intro e;have:=congrArg List.length e;simp at this;rw [this] at lT;simp at lT;omega
      obtain ⟨rS,hdS,hgS,hrS⟩:=jb0 (ms.v 1 (by simp)) (by simpa [nfaX] using hneS)
      obtain ⟨rT,hdT,hgT,hrT⟩:=jb0 (ms.v 2 (by simp)) (by simpa [nfaX] using hneT)
      simp only [List.getD_cons_zero,List.getD_cons_succ,nfaX,List.length_map] at hdS hgS hdT hgT
      have n1 : rS ≠ rT:=fun e=>ms.ap 2 3 (by omega) rS (by simp [hdS,objsD]) (by simp [hdT,objsD,e])
      have n2' : rS ≠ M:=fun e=>ms.notM (i:=1) (by simp [hdS,objsD,e])
      have n3 : rT ≠ M:=fun e=>ms.notM (i:=2) (by simp [hdT,objsD,e])
      have n4 : rS ≠ H.length:=fun e=>hH3.nq ⟨2,by simp [hdS,objsD,e]⟩
      have n5 : rT ≠ H.length:=fun e=>hH3.nq ⟨3,by simp [hdT,objsD,e]⟩
      have voS : vecO (.arr ((addState n2).set.map (D.int .u16))) 1 = true:=jcE hneS (jmB _)
      have voT : vecO (.arr ((addState n2).to.map (D.int .i64))) 1 = true:=jcE hneT (jba _)
      have m1:=ms.setv (p:=1) (r:=rS) (n:=(addState n2).set.length) (by simp) (by simpa using hdS) (xs:=((addState n2).set.set n.set.length s).map (.int .u16)) (by simp) (by omega)
      have m2:=m1.setv (p:=2) (r:=rT) (n:=(addState n2).to.length) (by simp) (by simpa using hdT) (xs:=((addState n2).to.set n.set.length (n2.set.length : Int)).map (.int .i64)) (by simp) (by omega)
      have hfin : ∃ ds',MkAt M (wire 1 s n.set.length n2.set.length ps (addState n2)) ds' ((H3.set rS (.arr (((addState n2).set.map (D.int .u16)).set n.set.length (.int .u16 s)))).set rT (.arr (((addState n2).to.map (D.int .i64)).set n.set.length (.int .i64 n2.set.length)))) /\ Mv6 (mkL M ds) H (mkL M ds') ((H3.set rS (.arr (((addState n2).set.map (D.int .u16)).set n.set.length (.int .u16 s)))).set rT (.arr (((addState n2).to.map (D.int .i64)).set n.set.length (.int .i64 n2.set.length)))):=by
        rw [<- List.map_set,<- List.map_set]
        refine ⟨dF :: dS :: dT :: dR :: fs,⟨by simpa [nfaX,wire,setTo] using m2,?_,by simp,by simp [wire,setTo,lS],by simp [wire,setTo,lT],by simp [wire,setTo,lR]⟩,hH3.mv.trans ⟨fun r hr ho=>?_,by simp,fun r h=>.inl h⟩⟩
        · rw [jaa n3,jaa n2',hM];rfl
        · rw [jaa fun e=>ho ⟨3,by simp [hdT,objsD,e]⟩,jaa fun e=>ho ⟨2,by simp [hdS,objsD,e]⟩]
      clear m1 m2 hneS hneT
      have lT' : (addState n2).to.length = (addState n2).set.length:=lT
      subst hdS hdT
      clear lS lT lR
      repeat' (first | apply wz1|apply wz2|apply wz3|apply wz4|apply wz5|apply wz6 | simp -dsimp (maxSteps:=999999) (disch:=omega) only[go_sem,simprocAttr, *] | ((first | refine wz8 ?_ ?_|refine wz9 ?_ ?_|refine wz7 ?_ ?_)<;>intro hh <;> (try replace hh:=vqs hh) <;> (try (exfalso;first | exact hh | omega))))
      refine jao (prs:=[]) (by kernel_rfl) rfl (by kernel_rfl) ?_
      simp -dsimp (maxSteps:=999999) (disch:=omega) only[go_sem,simprocAttr, *]
      repeat' (first | apply wz1|apply wz2|apply wz3|apply wz4|apply wz5|apply wz6 | simp -dsimp (maxSteps:=999999) (disch:=omega) only[go_sem,simprocAttr, *] | ((first | refine wz8 ?_ ?_|refine wz9 ?_ ?_|refine wz7 ?_ ?_)<;>intro hh <;> (try replace hh:=vqs hh) <;> (try (exfalso;first | exact hh | omega))))
      first | rfl | exact ⟨rfl,hfin⟩
    by_cases h2 : k = 2
    · subst h2
      repeat' (first | apply wz1|apply wz2|apply wz3|apply wz4|apply wz5|apply wz6 | simp -dsimp (maxSteps:=999999) (disch:=omega) only[go_sem,simprocAttr, *] | ((first | refine wz8 ?_ ?_|refine wz9 ?_ ?_|refine wz7 ?_ ?_)<;>intro hh <;> (try replace hh:=vqs hh) <;> (try (exfalso;first | exact hh | omega))))
      obtain ⟨PS,hPS⟩ : ∃ PS,PS = ps:=⟨_,rfl⟩
      refine jae (fun e Hj=>∃ (j last : Nat) (nj : Nfa) (dsj : List D),j <= ps.length /\ last < kN (addState n2) /\ Held M H (mkL M ds) H.length (.mk 2 s l) dK ps nj dsj Hj /\ kN nj <= kN (addState n2) /\ kN (addState n2) <= kN nj /\ fN nj <= fN (addState n2) + j /\ catW n2.set.length nj last (ps.drop j) = wire 2 s n.set.length n2.set.length ps (addState n2)
        /\ e 0 = .ptr M 0 0 /\ e 6 = .int .i64 n.set.length /\ e 8 = .int .i64 n2.set.length /\ e 9 = .int .i64 last /\ e 57 = dK /\ e 58 = .int .i64 ps.length /\ e 59 = .int .i64 j) (fun e H=>ps.length - natOf (e 59)) ?_ ?_
      · exact ⟨0,n.set.length,_,ds3,by omega,by simp only [kN];omega,hH3,Nat.le_refl _,Nat.le_refl _,by omega,by simp [wire],gs,gs,gs,gs,gs,gs,gs⟩
      clear hH3 hq3 hPS PS
      rintro e Hj ⟨j,last,nj,dsj,hj,hlast,hHj,k1,k2,hfj,hw,e0,e6,e8,e9,e57,e58,e59⟩ R hR
      by_cases hb : j < ps.length
      · obtain ⟨rK,hdK,hgK,hrK,hpj,hvo⟩:=jhG hHj.vK hb
        have hpn:=hin' ps[j] (List.getElem_mem hb)
        have hF:=(hHj.grow [Ob.arr [pD ps[j]]]).free last (by omega) (ps[j].1 : Int) (by simp only [kN] at k1 ⊢;omega) (by omega)
        rw [List.drop_eq_getElem_cons hb,catW] at hw
        simp only [pD] at hpj hF
        repeat' (first | apply wz1|apply wz2|apply wz3|apply wz4|apply wz5|apply wz6 | simp -dsimp (maxSteps:=999999) (disch:=omega) only[go_sem,simprocAttr, *] | ((first | refine wz8 ?_ ?_|refine wz9 ?_ ?_|refine wz7 ?_ ?_)<;>intro hh <;> (try replace hh:=vqs hh) <;> (try (exfalso;first | exact hh | omega))))
        refine jag bo87 rfl rfl hF ?_ (fun _ _ h=>h.elim)
        rintro _ H4 ⟨ds4,hH4,hv4⟩
        have hp4 : hget H4 Hj.length = .arr [.agg [.int .i64 ps[j].1,.int .i64 ps[j].2]]:=by
          rw [hv4.keep Hj.length (by simp) (fun ho=>by have:=jbz hHj.ma.ms ho;omega),jap];rfl
        repeat' (first | apply wz1|apply wz2|apply wz3|apply wz4|apply wz5|apply wz6 | simp -dsimp (maxSteps:=999999) (disch:=omega) only[go_sem,simprocAttr, *] | ((first | refine wz8 ?_ ?_|refine wz9 ?_ ?_|refine wz7 ?_ ?_)<;>intro hh <;> (try replace hh:=vqs hh) <;> (try (exfalso;first | exact hh | omega))))
        refine hR _ _ ⟨j + 1,ps[j].2,_,ds4,by omega,by simp only [kN];omega,hH4,by rw [jaI];exact k1,by rw [jaI];exact k2,by have:=jay nj last (ps[j].1 : Int);omega,hw,gs,gs,gs,gs,gs,gs,gs⟩ ?_
        simp -dsimp (maxSteps:=999999) (disch:=omega) only[go_sem,simprocAttr, *,jab]
      · rw [List.drop_eq_nil_of_le (by omega),catW] at hw
        have hF:=hHj.free last (by omega) (n2.set.length : Int) (by simp only [kN] at k1 ⊢;omega) (by omega)
        repeat' (first | apply wz1|apply wz2|apply wz3|apply wz4|apply wz5|apply wz6 | simp -dsimp (maxSteps:=999999) (disch:=omega) only[go_sem,simprocAttr, *] | ((first | refine wz8 ?_ ?_|refine wz9 ?_ ?_|refine wz7 ?_ ?_)<;>intro hh <;> (try replace hh:=vqs hh) <;> (try (exfalso;first | exact hh | omega))))
        refine jag bo87 rfl rfl hF ?_ (fun _ _ h=>h.elim)
        rintro _ H4 ⟨ds4,hH4,-⟩
        repeat' (first | apply wz1|apply wz2|apply wz3|apply wz4|apply wz5|apply wz6 | simp -dsimp (maxSteps:=999999) (disch:=omega) only[go_sem,simprocAttr, *] | ((first | refine wz8 ?_ ?_|refine wz9 ?_ ?_|refine wz7 ?_ ?_)<;>intro hh <;> (try replace hh:=vqs hh) <;> (try (exfalso;first | exact hh | omega))))
        exact ⟨rfl,ds4,by rw [<- hw];exact hH4.ma,hH4.mv⟩
    by_cases h3 : k = 3
    · subst h3
      repeat' (first | apply wz1|apply wz2|apply wz3|apply wz4|apply wz5|apply wz6 | simp -dsimp (maxSteps:=999999) (disch:=omega) only[go_sem,simprocAttr, *] | ((first | refine wz8 ?_ ?_|refine wz9 ?_ ?_|refine wz7 ?_ ?_)<;>intro hh <;> (try replace hh:=vqs hh) <;> (try (exfalso;first | exact hh | omega))))
      refine jae (fun e Hj=>∃ (j : Nat) (nj : Nfa) (dsj : List D),j <= ps.length /\ Held M H (mkL M ds) H.length (.mk 3 s l) dK ps nj dsj Hj /\ kN nj <= kN (addState n2) /\ kN (addState n2) <= kN nj /\ fN nj <= fN (addState n2) + 2 * j /\ altW n.set.length n2.set.length nj (ps.drop j) = wire 3 s n.set.length n2.set.length ps (addState n2)
        /\ e 0 = .ptr M 0 0 /\ e 6 = .int .i64 n.set.length /\ e 8 = .int .i64 n2.set.length /\ e 75 = dK /\ e 76 = .int .i64 ps.length /\ e 77 = .int .i64 j) (fun e H=>ps.length - natOf (e 77)) ?_ ?_
      · exact ⟨0,_,ds3,by omega,hH3,Nat.le_refl _,Nat.le_refl _,by omega,by simp [wire],gs,gs,gs,gs,gs,gs⟩
      clear hH3 hq3
      rintro e Hj ⟨j,nj,dsj,hj,hHj,k1,k2,hfj,hw,e0,e6,e8,e75,e76,e77⟩ R hR
      by_cases hb : j < ps.length
      · obtain ⟨rK,hdK,hgK,hrK,hpj,hvo⟩:=jhG hHj.vK hb
        have hpn:=hin' ps[j] (List.getElem_mem hb)
        have hF:=(hHj.grow [Ob.arr [pD ps[j]]]).free n.set.length (by simp only [kN] at k2 ⊢;omega) (ps[j].1 : Int) (by simp only [kN] at k1 ⊢;omega) (by omega)
        rw [List.drop_eq_getElem_cons hb,altW] at hw
        simp only [pD] at hpj hF
        repeat' (first | apply wz1|apply wz2|apply wz3|apply wz4|apply wz5|apply wz6 | simp -dsimp (maxSteps:=999999) (disch:=omega) only[go_sem,simprocAttr, *] | ((first | refine wz8 ?_ ?_|refine wz9 ?_ ?_|refine wz7 ?_ ?_)<;>intro hh <;> (try replace hh:=vqs hh) <;> (try (exfalso;first | exact hh | omega))))
        refine jag bo87 rfl rfl hF ?_ (fun _ _ h=>h.elim)
        rintro _ H4 ⟨ds4,hH4,hv4⟩
        have hp4 : hget H4 Hj.length = .arr [.agg [.int .i64 ps[j].1,.int .i64 ps[j].2]]:=by
          rw [hv4.keep Hj.length (by simp) (fun ho=>by have:=jbz hHj.ma.ms ho;omega),jap];rfl
        have hf4:=jay nj n.set.length (ps[j].1 : Int)
        have hF2:=hH4.free ps[j].2 (by show ps[j].2 < nj.set.length;simp only [kN] at k2;omega) (n2.set.length : Int) (by rw [jaI];simp only [kN] at k1 ⊢;omega) (by omega)
        repeat' (first | apply wz1|apply wz2|apply wz3|apply wz4|apply wz5|apply wz6 | simp -dsimp (maxSteps:=999999) (disch:=omega) only[go_sem,simprocAttr, *] | ((first | refine wz8 ?_ ?_|refine wz9 ?_ ?_|refine wz7 ?_ ?_)<;>intro hh <;> (try replace hh:=vqs hh) <;> (try (exfalso;first | exact hh | omega))))
        refine jag bo87 rfl rfl hF2 ?_ (fun _ _ h=>h.elim)
        rintro _ H5 ⟨ds5,hH5,hv5⟩
        repeat' (first | apply wz1|apply wz2|apply wz3|apply wz4|apply wz5|apply wz6 | simp -dsimp (maxSteps:=999999) (disch:=omega) only[go_sem,simprocAttr, *] | ((first | refine wz8 ?_ ?_|refine wz9 ?_ ?_|refine wz7 ?_ ?_)<;>intro hh <;> (try replace hh:=vqs hh) <;> (try (exfalso;first | exact hh | omega))))
        refine hR _ _ ⟨j + 1,_,ds5,by omega,hH5,by rw [jaI,jaI];exact k1,by rw [jaI,jaI];exact k2,by have:=jay (addFree nj n.set.length (ps[j].1 : Int)) ps[j].2 (n2.set.length : Int);omega,hw,gs,gs,gs,gs,gs,gs⟩ ?_
        simp -dsimp (maxSteps:=999999) (disch:=omega) only[go_sem,simprocAttr, *,jab]
      · rw [List.drop_eq_nil_of_le (by omega),altW] at hw
        repeat' (first | apply wz1|apply wz2|apply wz3|apply wz4|apply wz5|apply wz6 | simp -dsimp (maxSteps:=999999) (disch:=omega) only[go_sem,simprocAttr, *] | ((first | refine wz8 ?_ ?_|refine wz9 ?_ ?_|refine wz7 ?_ ?_)<;>intro hh <;> (try replace hh:=vqs hh) <;> (try (exfalso;first | exact hh | omega))))
        exact ⟨rfl,dsj,by rw [<- hw];exact hHj.ma,hHj.mv⟩
    by_cases h4 : k = 4
    · subst h4
      obtain ⟨p,rfl⟩ : ∃ p,ps = [p]:=by
        have : ps.length = 1:=by simp at hsh;omega
        match ps,this with
        | [p],_=>exact ⟨p,rfl⟩
      obtain ⟨rK,hdK,hgK,hrK,-,hvo⟩:=jhG (j:=0) hH3.vK (by simp)
      have hpn:=hin' p (by simp)
      simp only [psD,List.map_cons,List.map_nil,pD] at hgK hvo
      simp only [List.length_cons,List.length_nil] at hdK u5
      subst hdK
      have hF:=hH3.free p.2 (by simp only [kN];omega) (p.1 : Int) (by simp only [kN];omega) (by omega)
      repeat' (first | apply wz1|apply wz2|apply wz3|apply wz4|apply wz5|apply wz6 | simp -dsimp (maxSteps:=999999) (disch:=omega) only[go_sem,simprocAttr, *] | ((first | refine wz8 ?_ ?_|refine wz9 ?_ ?_|refine wz7 ?_ ?_)<;>intro hh <;> (try replace hh:=vqs hh) <;> (try (exfalso;first | exact hh | omega))))
      refine jao (prs:=[]) (by kernel_rfl) rfl (by kernel_rfl) ?_
      simp -dsimp (maxSteps:=999999) (disch:=omega) only[go_sem,simprocAttr, *]
      refine ⟨fun h=>absurd h (by decide),jag bo87 rfl rfl hF ?_ (fun _ _ h=>h.elim)⟩
      rintro _ H4 ⟨ds4,hH4,-⟩
      have g4:=(jfl hH4.vK).1
      have f4:=jay (addState n2) p.2 (p.1 : Int)
      simp only [psD,List.map_cons,List.map_nil,pD] at g4
      have hFa:=hH4.free n.set.length (by show n.set.length < (addState n2).set.length;omega) (p.1 : Int) (by show (addState n2).set.length <= 100000;omega) (by omega)
      repeat' (first | apply wz1|apply wz2|apply wz3|apply wz4|apply wz5|apply wz6 | simp -dsimp (maxSteps:=999999) (disch:=omega) only[go_sem,simprocAttr, *] | ((first | refine wz8 ?_ ?_|refine wz9 ?_ ?_|refine wz7 ?_ ?_)<;>intro hh <;> (try replace hh:=vqs hh) <;> (try (exfalso;first | exact hh | omega))))
      refine jag bo87 rfl rfl hFa ?_ (fun _ _ h=>h.elim)
      rintro _ H5 ⟨ds5,hH5,-⟩
      have g5:=(jfl hH5.vK).1
      have f5:=jay (addFree (addState n2) p.2 p.1) n.set.length (p.1 : Int)
      simp only [psD,List.map_cons,List.map_nil,pD] at g5
      have hFb:=hH5.free n.set.length (by show n.set.length < (addState n2).set.length;omega) (n2.set.length : Int) (by show (addState n2).set.length <= 100000;omega) (by omega)
      repeat' (first | apply wz1|apply wz2|apply wz3|apply wz4|apply wz5|apply wz6 | simp -dsimp (maxSteps:=999999) (disch:=omega) only[go_sem,simprocAttr, *] | ((first | refine wz8 ?_ ?_|refine wz9 ?_ ?_|refine wz7 ?_ ?_)<;>intro hh <;> (try replace hh:=vqs hh) <;> (try (exfalso;first | exact hh | omega))))
      refine jag bo87 rfl rfl hFb ?_ (fun _ _ h=>h.elim)
      rintro _ H6 ⟨ds6,hH6,-⟩
      have g6:=(jfl hH6.vK).1
      have f6:=jay (addFree (addFree (addState n2) p.2 p.1) n.set.length (p.1 : Int)) n.set.length (n2.set.length : Int)
      simp only [psD,List.map_cons,List.map_nil,pD] at g6
      have hFc:=hH6.free p.2 (by show p.2 < (addState n2).set.length;omega) (n2.set.length : Int) (by show (addState n2).set.length <= 100000;omega) (by omega)
      repeat' (first | apply wz1|apply wz2|apply wz3|apply wz4|apply wz5|apply wz6 | simp -dsimp (maxSteps:=999999) (disch:=omega) only[go_sem,simprocAttr, *] | ((first | refine wz8 ?_ ?_|refine wz9 ?_ ?_|refine wz7 ?_ ?_)<;>intro hh <;> (try replace hh:=vqs hh) <;> (try (exfalso;first | exact hh | omega))))
      refine jag bo87 rfl rfl hFc ?_ (fun _ _ h=>h.elim)
      rintro _ H7 ⟨ds7,hH7,-⟩
      repeat' (first | apply wz1|apply wz2|apply wz3|apply wz4|apply wz5|apply wz6 | simp -dsimp (maxSteps:=999999) (disch:=omega) only[go_sem,simprocAttr, *] | ((first | refine wz8 ?_ ?_|refine wz9 ?_ ?_|refine wz7 ?_ ?_)<;>intro hh <;> (try replace hh:=vqs hh) <;> (try (exfalso;first | exact hh | omega))))
      exact ⟨rfl,ds7,by simpa [wire,optW] using hH7.ma,hH7.mv⟩
    by_cases h5 : k = 5
    · subst h5
      obtain ⟨p,rfl⟩ : ∃ p,ps = [p]:=by
        have : ps.length = 1:=by simp at hsh;omega
        match ps,this with
        | [p],_=>exact ⟨p,rfl⟩
      obtain ⟨rK,hdK,hgK,hrK,-,hvo⟩:=jhG (j:=0) hH3.vK (by simp)
      have hpn:=hin' p (by simp)
      simp only [psD,List.map_cons,List.map_nil,pD] at hgK hvo
      simp only [List.length_cons,List.length_nil] at hdK u5
      subst hdK
      have hH4:=hH3
      have g4:=hgK
      have hFa:=hH4.free n.set.length (by show n.set.length < (addState n2).set.length;omega) (p.1 : Int) (by show (addState n2).set.length <= 100000;omega) (by omega)
      repeat' (first | apply wz1|apply wz2|apply wz3|apply wz4|apply wz5|apply wz6 | simp -dsimp (maxSteps:=999999) (disch:=omega) only[go_sem,simprocAttr, *] | ((first | refine wz8 ?_ ?_|refine wz9 ?_ ?_|refine wz7 ?_ ?_)<;>intro hh <;> (try replace hh:=vqs hh) <;> (try (exfalso;first | exact hh | omega))))
      refine jag bo87 rfl rfl hFa ?_ (fun _ _ h=>h.elim)
      rintro _ H5 ⟨ds5,hH5,-⟩
      have g5:=(jfl hH5.vK).1
      have f5:=jay (addState n2) n.set.length (p.1 : Int)
      simp only [psD,List.map_cons,List.map_nil,pD] at g5
      have hFb:=hH5.free n.set.length (by show n.set.length < (addState n2).set.length;omega) (n2.set.length : Int) (by show (addState n2).set.length <= 100000;omega) (by omega)
      repeat' (first | apply wz1|apply wz2|apply wz3|apply wz4|apply wz5|apply wz6 | simp -dsimp (maxSteps:=999999) (disch:=omega) only[go_sem,simprocAttr, *] | ((first | refine wz8 ?_ ?_|refine wz9 ?_ ?_|refine wz7 ?_ ?_)<;>intro hh <;> (try replace hh:=vqs hh) <;> (try (exfalso;first | exact hh | omega))))
      refine jag bo87 rfl rfl hFb ?_ (fun _ _ h=>h.elim)
      rintro _ H6 ⟨ds6,hH6,-⟩
      have g6:=(jfl hH6.vK).1
      have f6:=jay (addFree (addState n2) n.set.length (p.1 : Int)) n.set.length (n2.set.length : Int)
      simp only [psD,List.map_cons,List.map_nil,pD] at g6
      have hFc:=hH6.free p.2 (by show p.2 < (addState n2).set.length;omega) (n2.set.length : Int) (by show (addState n2).set.length <= 100000;omega) (by omega)
      repeat' (first | apply wz1|apply wz2|apply wz3|apply wz4|apply wz5|apply wz6 | simp -dsimp (maxSteps:=999999) (disch:=omega) only[go_sem,simprocAttr, *] | ((first | refine wz8 ?_ ?_|refine wz9 ?_ ?_|refine wz7 ?_ ?_)<;>intro hh <;> (try replace hh:=vqs hh) <;> (try (exfalso;first | exact hh | omega))))
      refine jag bo87 rfl rfl hFc ?_ (fun _ _ h=>h.elim)
      rintro _ H7 ⟨ds7,hH7,-⟩
      repeat' (first | apply wz1|apply wz2|apply wz3|apply wz4|apply wz5|apply wz6 | simp -dsimp (maxSteps:=999999) (disch:=omega) only[go_sem,simprocAttr, *] | ((first | refine wz8 ?_ ?_|refine wz9 ?_ ?_|refine wz7 ?_ ?_)<;>intro hh <;> (try replace hh:=vqs hh) <;> (try (exfalso;first | exact hh | omega))))
      exact ⟨rfl,ds7,by simpa [wire,optW] using hH7.ma,hH7.mv⟩
    · simp [h0,h1,h2,h3,h4,h5] at hsh
end Go.Proofs.W
end
section
namespace Go.Proofs.W
open Go Vm Go.Proofs.Zso
def isA (H : Heap) (r : Nat) (xs : List D) : Prop:=hget H r = .arr xs ∨ hget H r = .fro xs
def Soft (H H' : Heap) : Prop:=∀ r xs,isA H r xs -> isA H' r xs
def VecA (d : D) (H : Heap) (xs : List D) : Prop:=(xs = [] /\ d = .sl true []) ∨ ∃ r,d = .vec r 0 xs.length /\ isA H r xs /\ r < H.length
theorem jbU {d : D} {H : Heap} {xs : List D} (h : VecIs d H xs) : VecA d H xs:=by
  rcases h with h | ⟨_,r,h1,h2,h3⟩
  · exact .inl h
  · exact .inr ⟨r,h1,.inl h2,h3⟩
theorem VecA.soft {d : D} {H H' : Heap} {xs : List D} (h : VecA d H xs) (hs : Soft H H') (hl : H.length <= H'.length) : VecA d H' xs:=by
  rcases h with h | ⟨r,h1,h2,h3⟩
  · exact .inl h
  · exact .inr ⟨r,h1,hs r xs h2,by omega⟩
theorem Soft.refl {H : Heap} : Soft H H:=fun _ _ h=>h
theorem Soft.trans {H H1 H2 : Heap} (h : Soft H H1) (g : Soft H1 H2) : Soft H H2:=fun r xs k=>g r xs (h r xs k)
theorem Soft.fro {H : Heap} {r : Nat} {xs : List D} (h : hget H r = .arr xs) (hr : r < H.length) : Soft H (H.set r (.fro xs)):=by
  intro k ys hk
  by_cases e : r = k
  · subst e
    rcases hk with hk | hk
    · rw [h] at hk;cases hk;exact .inr (jad hr)
    · rw [h] at hk;cases hk
  · unfold isA;rw [jaa e];exact hk
theorem jkq {k : Nat} {H : Heap} {d : D} {xs ys : List D} (h : VecA d H xs) (he : ∀ H1,Soft H H1 -> H.length <= H1.length -> ∃ H2,purL (pur k) H1 xs = some (ys,H2) /\ Soft H1 H2 /\ H1.length <= H2.length) (hy : xs = [] -> ys = []) :
    ∃ H2,pur (k + 1) H d = some (.sl false ys,H2) /\ Soft H H2 /\ H.length <= H2.length:=by
  rcases h with ⟨h1,rfl⟩ | ⟨r,rfl,h2,h3⟩
  · rw [hy h1]
    exact ⟨H,by simp [pur,strip,stripL],Soft.refl,Nat.le_refl _⟩
  · rw [jdZ]
    rcases h2 with h2 | h2
    · obtain ⟨H2,g1,g2,g3⟩:=he (H.set r (.fro xs)) (Soft.fro h2 h3) (by simp)
      refine ⟨H2,?_,(Soft.fro h2 h3).trans g2,by simpa using g3⟩
      rw [h2]
      simp only [Nat.zero_add,Nat.le_refl,if_true,List.drop_zero,List.take_length,g1,Option.map_some]
    · obtain ⟨H2,g1,g2,g3⟩:=he H Soft.refl (Nat.le_refl _)
      refine ⟨H2,?_,g2,g3⟩
      rw [h2]
      simp only [Nat.zero_add,Nat.le_refl,if_true,List.drop_zero,List.take_length,g1,Option.map_some]
theorem jbk {k : Nat} {H : Heap} {d : D} {xs : List D} (h : VecA d H xs) (hs : stripL xs = some xs) : ∃ H2,pur (k + 2) H d = some (.sl false xs,H2) /\ Soft H H2 /\ H.length <= H2.length:=
  jkq h (fun H1 _ _=>⟨H1,jbd hs,Soft.refl,Nat.le_refl _⟩) (fun h=>h)
theorem jkf {k : Nat} : ∀ (fs : List D) (X : List (List Int)) (H : Heap),fs.length = X.length -> (∀ i x,X[i]? = some x -> VecA (fs.getD i ud) H (x.map (.int .i64))) -> ∃ H2,purL (pur (k + 2)) H fs = some (X.map isD,H2) /\ Soft H H2 /\ H.length <= H2.length
  | [],[],H,_,_=>⟨H,rfl,Soft.refl,Nat.le_refl _⟩
  | [],x :: X,H,h,_=>by simp at h
  | d :: fs,[],H,h,_=>by simp at h
  | d :: fs,x :: X,H,h,hv=>by
    obtain ⟨H1,g1,g2,g3⟩:=jbk (k:=k) (hv 0 x rfl) (jaM x)
    obtain ⟨H2,k1,k2,k3⟩:=jkf (k:=k) fs X H1 (by simpa using h) fun i y hy=>by
      have:=hv (i + 1) y (by simpa using hy)
      exact VecA.soft (by simpa using this) g2 g3
    refine ⟨H2,?_,g2.trans k2,by omega⟩
    simp only [List.getD_cons_zero] at g1
    simp only [purL,g1,Option.bind_some,k1,Option.map_some,List.map_cons]
    rfl
theorem jgC {k : Nat} {cs : List D} {H : Heap} (h : stripL cs = none) : pur (k + 1) H (.agg cs) = (purL (pur k) H cs).map fun (l,H)=>(.agg l,H):=by
  conv=>lhs;unfold Vm.pur
  simp only [strip,h,Option.map_none]
theorem jwy {M : Nat} {n : Nfa} {ds : List D} {H : Heap} (h : MkAt M n ds H) (hne : 1 <= n.set.length) (e : Int) : outPure H (.tup [.agg (ds.take 4),.int .i64 e]) = some (.tup [nfaD n,.int .i64 e]):=by
  obtain ⟨ms,hM,hdl,lS,lT,lR⟩:=h
  obtain ⟨dF,dS,dT,dR,fs,rfl⟩:=jda hdl
  simp only [List.take_succ_cons,List.take_zero,List.drop_succ_cons,List.drop_zero] at ms hM ⊢
  have hfl : fs.length = n.free.length:=by have:=ms.lenX;simp [nfaX] at this;omega
  have vF : VecA dF H fs:=by have:=jbU (ms.v 0 (by simp));simpa [nfaX] using this
  have vS : VecA dS H (n.set.map (.int .u16)):=by have:=jbU (ms.v 1 (by simp));simpa [nfaX] using this
  have vT : VecA dT H (n.to.map (.int .i64)):=by have:=jbU (ms.v 2 (by simp));simpa [nfaX] using this
  have vR : VecA dR H (n.rule.map (.int .i64)):=by have:=jbU (ms.v 3 (by simp));simpa [nfaX] using this
  have vE : ∀ i x,n.free[i]? = some x -> VecA (fs.getD i ud) H (x.map (.int .i64)):=fun i x hx=>by
    have hi : i < n.free.length:=by
      rcases Nat.lt_or_ge i n.free.length with h | h
      · exact h
      · rw [List.getElem?_eq_none h] at hx;cases hx
    have:=jbU (ms.v (i + 4) (by simp;omega))
    have e1 : (dF :: dS :: dT :: dR :: fs).getD (i + 4) ud = fs.getD i ud:=by simp
    have e2 : (nfaX n fs).getD (i + 4) [] = x.map (.int .i64):=by
      simp only [nfaX,List.getD_cons_succ]
      simp only [List.getD_eq_getElem?_getD,List.getElem?_map,hx]
      rfl
    rwa [e1,e2] at this
  have hnil : fs = [] -> n.free.map isD = []:=fun h=>by
    rw [h] at hfl
    have : n.free = []:=List.length_eq_zero_iff.1 (by simpa using hfl.symm)
    rw [this];rfl
  obtain ⟨H1,p1,s1,l1⟩:=jkq (k:=3) vF (fun H1 h1 h2=>jkf (k:=1) fs n.free H1 hfl fun i x hx=>(vE i x hx).soft h1 h2) hnil
  obtain ⟨H2,p2,s2,l2⟩:=jbk (k:=2) (vS.soft s1 l1) (jhs _)
  obtain ⟨H3,p3,s3,l3⟩:=jbk (k:=2) (vT.soft (s1.trans s2) (by omega)) (jaM _)
  obtain ⟨H4,p4,s4,l4⟩:=jbk (k:=2) (vR.soft ((s1.trans s2).trans s3) (by omega)) (jaM _)
  have hnone : stripL [dF,dS,dT,dR] = none:=by
    have : strip dF = none:=by
      rcases vF with ⟨h1,_⟩ | ⟨r,h1,_⟩
      · rw [h1] at hfl;simp at hfl;omega
      · rw [h1];rfl
    simp [stripL,this]
  have hnone2 : stripL [D.agg [dF,dS,dT,dR],.int .i64 e] = none:=by rw [stripL,strip,hnone];rfl
  unfold outPure deepest
  rw [jh7 hnone2]
  simp only [purL]
  rw [jgC hnone]
  simp only [purL,p1,p2,p3,p4,Option.bind_some,Option.map_some]
  rw [jcY (show strip (.int .i64 e) = some (.int .i64 e) from rfl)]
  rfl
end Go.Proofs.W
end
section
namespace Go.Proofs.W
open Go Vm Go.Proofs.Zso
def setRule (n : Nfa) (o : Nat) (i : Int) : Nfa:={ n with rule:=n.rule.set o i }
def emptyN : Nfa:=⟨[],[],[],[]⟩
def buildFrom : Nat -> List Rx -> Nfa -> Option Nfa
  | _,[],n=>some n
  | i,r :: l,n=>if rightR r then buildFrom (i + 1) l (setRule (addFree (makeN r n).1 0 (makeN r n).2.1) (makeN r n).2.2 i) else none
def buildN (l : List Rx) : Option Nfa:=if 1 <= l.length /\ l.length <= 16 then buildFrom 0 l (addState emptyN) else none
def rxsD (l : List Rx) : D:=.sl false (rxDs l)
def builtD : Option Nfa -> D
  | some n=>.tup [nfaD n,.int .i64 0]
  | none=>.tup [nfaD emptyN,.int .i64 1]
theorem jtw {H : Heap} : MkAt H.length emptyN [.sl true [],.sl true [],.sl true [],.sl true []] (H ++ [.arr [.agg [.sl true [],.sl true [],.sl true [],.sl true []]]]):=by
  refine ⟨⟨fun i hi=>?_,rfl,fun i j hij r hi hj=>?_,by simp⟩,by rw [jap];rfl,by simp,rfl,rfl,rfl⟩
  · match i,hi with
    | 0,_=>exact VecIs.nil
    | 1,_=>exact VecIs.nil
    | 2,_=>exact VecIs.nil
    | 3,_=>exact VecIs.nil
  · match i,j with
    | 0,0=>exact hij rfl
    | 0,1=>cases hj
    | 0,2=>cases hj
    | 0,3=>cases hj
    | 0,4=>cases hj
    | 0,j + 5=>simp [ud,objsD] at hj
    | 1,_=>cases hi
    | 2,_=>cases hi
    | 3,_=>cases hi
    | 4,_=>cases hi
    | i + 5,_=>simp [ud,objsD] at hi
theorem zrN : zeroT Tryz.prog 129 = some (.agg [.sl true [],.sl true [],.sl true [],.sl true []]):=by kernel_rfl
theorem zrM : zeroT Tryz.prog 153 = some (.agg [.sl true [],.sl true [],.sl true [],.sl true []]):=by kernel_rfl
theorem bdN0 : buildD Tryz.prog 129 [] = some (.agg [.sl true [],.sl true [],.sl true [],.sl true []]):=by kernel_rfl
theorem bdM0 : buildD Tryz.prog 153 [] = some (.agg [.sl true [],.sl true [],.sl true [],.sl true []]):=by kernel_rfl
attribute [local go_sem] zrN zrM bdN0 bdM0
set_option maxRecDepth 20000 in
theorem jpi (l : List Rx) (hl0 : l.length <= 16 -> ∀ r ∈ l,okR r) (hll : l.length <= 100000) : PureF Tryz.prog A 65 [rxsD l] (builtD (buildN l)):=by
  refine jaj (n:=55) (rs:=[.cell 2 129,.tmp 3]) Tryz.func65 rfl rfl rfl rfl rfl rfl ?_
  by_cases c1 : l.length = 0
  · have : buildN l = none:=by simp [buildN,c1]
    rw [this]
    repeat' (first | apply wz1|apply wz2|apply wz3|apply wz4|apply wz5|apply wz6 | simp -dsimp (maxSteps:=999999) (disch:=omega) only[go_sem,simprocAttr, *,rxsD] | ((first | refine wz8 (fun hh=>?_) (fun hh=>?_) | refine wz9 (fun hh=>?_) (fun hh=>?_) | refine jak (by simp -dsimp (maxSteps:=999999) (disch:=omega) only[go_sem,simprocAttr, *,rxsD];exact rfl) (fun hh=>?_) (fun hh=>?_)) <;> (try replace hh:=vqs hh) <;> (try (exfalso;first | exact hh | omega))))
    exact jaF rfl
  by_cases c2 : l.length <= 16
  case neg=>
    have : buildN l = none:=by simp [buildN,c2]
    rw [this]
    repeat' (first | apply wz1|apply wz2|apply wz3|apply wz4|apply wz5|apply wz6 | simp -dsimp (maxSteps:=999999) (disch:=omega) only[go_sem,simprocAttr, *,rxsD] | ((first | refine wz8 (fun hh=>?_) (fun hh=>?_) | refine wz9 (fun hh=>?_) (fun hh=>?_) | refine jak (by simp -dsimp (maxSteps:=999999) (disch:=omega) only[go_sem,simprocAttr, *,rxsD];exact rfl) (fun hh=>?_) (fun hh=>?_)) <;> (try replace hh:=vqs hh) <;> (try (exfalso;first | exact hh | omega))))
    exact jaF rfl
  have hl:=hl0 c2
  clear hl0
  have hb : buildN l = buildFrom 0 (l.drop 0) (addState emptyN):=by
    have : 1 <= l.length:=by omega
    simp [buildN,c2,this]
  rw [hb]
  have hS:=jgB 1 emptyN _ _ (jtw (H:=[.arr [.agg [.sl true [],.sl true [],.sl true [],.sl true []]]])) (by simp [emptyN])
  simp only [List.cons_append,List.nil_append,List.length_cons,List.length_nil,Nat.zero_add] at hS
  repeat' (first | apply wz1|apply wz2|apply wz3|apply wz4|apply wz5|apply wz6 | simp -dsimp (maxSteps:=999999) (disch:=omega) only[go_sem,simprocAttr, *,rxsD] | ((first | refine wz8 (fun hh=>?_) (fun hh=>?_) | refine wz9 (fun hh=>?_) (fun hh=>?_) | refine jak (by simp -dsimp (maxSteps:=999999) (disch:=omega) only[go_sem,simprocAttr, *,rxsD];exact rfl) (fun hh=>?_) (fun hh=>?_)) <;> (try replace hh:=vqs hh) <;> (try (exfalso;first | exact hh | omega))))
  refine jag bo85 rfl rfl hS ?_ (fun _ _ h=>h.elim)
  rintro _ H1 ⟨rfl,ds1,hm1,hv1⟩
  repeat' (first | apply wz1|apply wz2|apply wz3|apply wz4|apply wz5|apply wz6 | simp -dsimp (maxSteps:=999999) (disch:=omega) only[go_sem,simprocAttr, *] | ((first | refine wz8 ?_ ?_|refine wz9 ?_ ?_|refine wz7 ?_ ?_)<;>intro hh <;> (try replace hh:=vqs hh) <;> (try (exfalso;first | exact hh | omega))))
  have hv1l:=hv1.len
  simp only [List.length_cons,List.length_nil] at hv1l
  have h00 : hget H1 0 = .arr [.agg [.sl true [],.sl true [],.sl true [],.sl true []]]:=by
    rw [hv1.keep 0 (by simp) (fun ho=>by
      obtain ⟨k,hk⟩:=ho
      match k,hk with
      | 0,hk=>simp [objsD] at hk
      | 1,hk=>cases hk
      | 2,hk=>cases hk
      | 3,hk=>cases hk
      | 4,hk=>cases hk
      | k + 5,hk=>simp [ud,objsD] at hk)]
    rfl
  have hn0 : ¬ own (mkL 1 ds1) 0:=fun ho=>by
    rcases hv1.ow 0 ho with h | h
    · obtain ⟨k,hk⟩:=h
      match k,hk with
      | 0,hk=>simp [objsD] at hk
      | 1,hk=>cases hk
      | 2,hk=>cases hk
      | 3,hk=>cases hk
      | 4,hk=>cases hk
      | k + 5,hk=>simp [ud,objsD] at hk
    · simp at h
  generalize hG : buildFrom 0 (l.drop 0) (addState emptyN) = G
  refine jae (fun e Hj=>∃ (j : Nat) (nj : Nfa) (dsj : List D),j <= l.length /\ MkAt 1 nj dsj Hj /\ hget Hj 0 = .arr [.agg [.sl true [],.sl true [],.sl true [],.sl true []]] /\ ¬ own (mkL 1 dsj) 0 /\ 1 <= kN nj /\ kN nj <= 1 + 200 * j /\ fN nj <= 700 * j /\ G = buildFrom j (l.drop j) nj
    /\ e 2 = .ptr 0 0 0 /\ e 4 = .ptr 1 0 0 /\ e 22 = rxsD l /\ e 23 = .int .i64 l.length /\ e 24 = .int .i64 j) (fun e H=>l.length - natOf (e 24)) ?_ ?_
  · exact ⟨0,_,ds1,by omega,hm1,h00,hn0,by simp [kN,addState,emptyN],by simp [kN,addState,emptyN],by simp [fN,addState,emptyN],hG.symm,gs,gs,by simp -dsimp (maxSteps:=999999) (disch:=omega) only[go_sem,simprocAttr, *,rxsD],by simp -dsimp (maxSteps:=999999) (disch:=omega) only[go_sem,simprocAttr, *,rxsD],gs⟩
  clear hG hS hm1 hv1 h00 hn0 hv1l hb
  rintro e Hj ⟨j,nj,dsj,hj,hmj,h0j,hnj,hk1,hk,hf,hG,e2,e4,e22,e23,e24⟩ R hR
  by_cases hb : j < l.length
  · have hr:=hl l[j] (List.getElem_mem hb)
    have hx : (rxDs l)[j]? = some (rxD l[j]):=by rw [jhW,List.getElem?_eq_getElem hb];rfl
    have q1:=jbf l[j]
    have q2:=jb4 l[j]
    have q3:=jbw l[j]
    have hRt:=je2 l[j] hr
    have hst:=jaH (jaW l[j])
    have hM1:=hmj.ms.m
    have hl0:=jah h0j
    rw [List.drop_eq_getElem_cons hb,buildFrom] at hG
    cases hrt : rightR l[j] with
    | false=>
      rw [hrt] at hG hRt
      have hG' : G = none:=by simpa using hG
      rw [hG']
      clear hG
      generalize hw : rxD l[j] = dk at *
      have hl1 : 0 < (Hj ++ [Ob.arr [dk]]).length:=by simp
      repeat' (first | apply wz1|apply wz2|apply wz3|apply wz4|apply wz5|apply wz6 | simp -dsimp (maxSteps:=999999) (disch:=omega) only[go_sem,simprocAttr, *,rxsD] | ((first | refine wz8 (fun hh=>?_) (fun hh=>?_) | refine wz9 (fun hh=>?_) (fun hh=>?_) | refine jak (by simp -dsimp (maxSteps:=999999) (disch:=omega) only[go_sem,simprocAttr, *,rxsD];exact rfl) (fun hh=>?_) (fun hh=>?_)) <;> (try replace hh:=vqs hh) <;> (try (exfalso;first | exact hh | omega))))
      refine jal bo30 rfl rfl hst hRt ?_
      repeat' (first | apply wz1|apply wz2|apply wz3|apply wz4|apply wz5|apply wz6 | simp -dsimp (maxSteps:=999999) (disch:=omega) only[go_sem,simprocAttr, *] | ((first | refine wz8 ?_ ?_|refine wz9 ?_ ?_|refine wz7 ?_ ?_)<;>intro hh <;> (try replace hh:=vqs hh) <;> (try (exfalso;first | exact hh | omega))))
      exact jaF rfl
    | true=>
      rw [hrt] at hG hRt
      have hG' : G = buildFrom (j + 1) (l.drop (j + 1)) (setRule (addFree (makeN l[j] nj).1 0 (makeN l[j] nj).2.1) (makeN l[j] nj).2.2 j):=by simpa using hG
      clear hG
      have hsz : sizeR l[j] <= 100 /\ shapesR l[j] = true:=by
        simp only [rightR,Bool.and_eq_true,decide_eq_true_eq] at hrt
        exact ⟨(jc2 _).1 hrt.1.2,hrt.2⟩
      have hmk:=jv6 _ l[j] (Nat.le_refl _) hsz.2 hr 1 nj dsj (Hj ++ [Ob.arr [rxD l[j]]]) (hmj.keep (by simp) fun r hr=>jac (jbz hmj.ms hr)) (by omega) (by omega)
      have e1:=jcH l[j] nj
      have e2':=jhY l[j] nj
      have e3:=jdm l[j] nj
      have b1:=hmk
      have hl1 : 0 < (Hj ++ [Ob.arr [rxD l[j]]]).length:=by simp
      generalize hw : rxD l[j] = dk at *
      have u1 : kN (makeN l[j] nj).1 <= 1 + 200 * (j + 1):=by omega
      have u2 : fN (makeN l[j] nj).1 + 1 <= 700 * (j + 1):=by omega
      have u3 : kN nj + 2 <= kN (makeN l[j] nj).1:=by have:=jaG l[j];omega
      have u4 : (makeN l[j] nj).2.2 < kN (makeN l[j] nj).1:=by rw [e3];show _ < _;omega
      clear e1 e2' e3 b1
      generalize hQ : makeN l[j] nj = Q at *
      obtain ⟨n2,i2,o2⟩:=Q
      simp only at hmk hG' u1 u2 u3 u4
      repeat' (first | apply wz1|apply wz2|apply wz3|apply wz4|apply wz5|apply wz6 | simp -dsimp (maxSteps:=999999) (disch:=omega) only[go_sem,simprocAttr, *,rxsD] | ((first | refine wz8 (fun hh=>?_) (fun hh=>?_) | refine wz9 (fun hh=>?_) (fun hh=>?_) | refine jak (by simp -dsimp (maxSteps:=999999) (disch:=omega) only[go_sem,simprocAttr, *,rxsD];exact rfl) (fun hh=>?_) (fun hh=>?_)) <;> (try replace hh:=vqs hh) <;> (try (exfalso;first | exact hh | omega))))
      refine jal bo30 rfl rfl hst hRt ?_
      repeat' (first | apply wz1|apply wz2|apply wz3|apply wz4|apply wz5|apply wz6 | simp -dsimp (maxSteps:=999999) (disch:=omega) only[go_sem,simprocAttr, *] | ((first | refine wz8 ?_ ?_|refine wz9 ?_ ?_|refine wz7 ?_ ?_)<;>intro hh <;> (try replace hh:=vqs hh) <;> (try (exfalso;first | exact hh | omega))))
      refine jag bo86 rfl rfl hmk ?_ (fun _ _ h=>h.elim)
      rintro _ H2 ⟨rfl,ds2,hm2,hv2⟩
      have hF:=jm2 1 n2 ds2 H2 hm2 (by simp only [kN] at u1;omega) 0 (by simp only [kN] at u3;omega) (i2 : Int) (by have:=fl_le n2 0;omega)
      have hn2 : ¬ own (mkL 1 ds2) 0:=fun ho=>by
        rcases hv2.ow 0 ho with h | h
        · exact hnj h
        · simp at h
      have h02 : hget H2 0 = .arr [.agg [.sl true [],.sl true [],.sl true [],.sl true []]]:=by
        rw [hv2.keep 0 hl1 hnj,jac hl0,h0j]
      have hl2:=jah h02
      rw [show ((0 : Nat) : Int) = 0 from rfl] at hF
      repeat' (first | apply wz1|apply wz2|apply wz3|apply wz4|apply wz5|apply wz6 | simp -dsimp (maxSteps:=999999) (disch:=omega) only[go_sem,simprocAttr, *] | ((first | refine wz8 ?_ ?_|refine wz9 ?_ ?_|refine wz7 ?_ ?_)<;>intro hh <;> (try replace hh:=vqs hh) <;> (try (exfalso;first | exact hh | omega))))
      refine jag bo87 rfl rfl hF ?_ (fun _ _ h=>h.elim)
      rintro _ H3 ⟨ds3,hm3,hv3⟩
      have hn3 : ¬ own (mkL 1 ds3) 0:=fun ho=>by
        rcases hv3.ow 0 ho with h | h
        · exact hn2 h
        · omega
      have h03 : hget H3 0 = .arr [.agg [.sl true [],.sl true [],.sl true [],.sl true []]]:=by
        rw [hv3.keep 0 hl2 hn2,h02]
      have hf3:=jay n2 0 (i2 : Int)
      generalize hN3 : addFree n2 0 (i2 : Int) = n3 at *
      have hk3 : kN n3 = kN n2:=by rw [<- hN3];rfl
      have u5 : o2 < kN n3:=by omega
      have u6 : kN n3 <= 1 + 200 * (j + 1):=by omega
      have u7 : 1 <= kN n3:=by omega
      clear hk3 hN3
      obtain ⟨ms,hM,hdl,lS,lT,lR⟩:=hm3
      obtain ⟨dF,dS,dT,dR,fs,rfl⟩:=jda hdl
      simp only [List.take_succ_cons,List.take_zero,List.drop_succ_cons,List.drop_zero] at ms hM
      have hneR : n3.rule.map (D.int .i64) ≠ []:=by intro e;have:=congrArg List.length e;simp at this;rw [this] at lR;simp only [kN] at u7;simp at lR;omega
      obtain ⟨rR,hdR,hgR,hrR⟩:=jb0 (ms.v 3 (by simp)) (by simpa [nfaX] using hneR)
      simp only [List.getD_cons_zero,List.getD_cons_succ,nfaX,List.length_map] at hdR hgR
      have n3' : rR ≠ 1:=fun e=>ms.notM (i:=3) (by simp [hdR,objsD,e])
      have n4 : rR ≠ 0:=fun e=>hn3 ⟨4,by simp [hdR,objsD,e]⟩
      have voR : vecO (.arr (n3.rule.map (D.int .i64))) 1 = true:=jcE hneR (jba _)
      have hoR : o2 < n3.rule.length:=by simp only [kN] at u5;omega
      have m1:=ms.setv (p:=3) (r:=rR) (n:=n3.rule.length) (by simp) (by simpa using hdR) (xs:=(n3.rule.set o2 (j : Int)).map (.int .i64)) (by simp) (by omega)
      have hmN : MkAt 1 (setRule n3 o2 j) (dF :: dS :: dT :: dR :: fs) (H3.set rR (.arr ((n3.rule.map (D.int .i64)).set o2 (.int .i64 j)))):=by
        rw [<- List.map_set]
        exact ⟨by simpa [nfaX,setRule] using m1,by rw [jaa n3',hM];rfl,by simp,lS,lT,by simpa [setRule] using lR⟩
      have h0N : hget (H3.set rR (.arr ((n3.rule.map (D.int .i64)).set o2 (.int .i64 j)))) 0 = .arr [.agg [.sl true [],.sl true [],.sl true [],.sl true []]]:=by
        rw [jaa n4,h03]
      clear m1 hneR lR
      subst hdR
      repeat' (first | apply wz1|apply wz2|apply wz3|apply wz4|apply wz5|apply wz6 | simp -dsimp (maxSteps:=999999) (disch:=omega) only[go_sem,simprocAttr, *] | ((first | refine wz8 ?_ ?_|refine wz9 ?_ ?_|refine wz7 ?_ ?_)<;>intro hh <;> (try replace hh:=vqs hh) <;> (try (exfalso;first | exact hh | omega))))
      refine hR _ _ ⟨j + 1,setRule n3 o2 j,_,by omega,hmN,h0N,hn3,u7,u6,by have : fN (setRule n3 o2 j) = fN n3:=rfl;omega,hG',gs,gs,by simp -dsimp (maxSteps:=999999) (disch:=omega) only[go_sem,simprocAttr, *,rxsD],gs,gs⟩ ?_
      simp -dsimp (maxSteps:=999999) (disch:=omega) only[go_sem,simprocAttr, *,jab]
  · rw [List.drop_eq_nil_of_le (by omega)] at hG
    have hG' : G = some nj:=hG
    have hM:=hmj.hM
    have hl0:=jah h0j
    have hout:=fun ob=>jwy (hmj.keep (H':=Hj.set 0 ob) (by simp) fun r hr=>jaa fun e=>hnj (e ▸ hr)) hk1 0
    obtain ⟨dF,dS,dT,dR,fs,rfl⟩:=jda hmj.len
    simp only [List.take_succ_cons,List.take_zero] at hM hout
    rw [hG']
    repeat' (first | apply wz1|apply wz2|apply wz3|apply wz4|apply wz5|apply wz6 | simp -dsimp (maxSteps:=999999) (disch:=omega) only[go_sem,simprocAttr, *] | ((first | refine wz8 ?_ ?_|refine wz9 ?_ ?_|refine wz7 ?_ ?_)<;>intro hh <;> (try replace hh:=vqs hh) <;> (try (exfalso;first | exact hh | omega))))
    exact hout _
end Go.Proofs.W
end
section
namespace Go.Proofs.W
open Go Vm Go.Proofs.Zso
structure OkM (n : Nfa) : Prop where
  lF : n.free.length = kN n
  lT : n.to.length = kN n
  lR : n.rule.length = kN n
  fr : ∀ i x,x ∈ n.free.getD i [] -> 0 <= x /\ x < kN n
  st : ∀ i,n.set.getD i 0 ≠ 0 -> 0 <= n.to.getD i 0 /\ n.to.getD i 0 < kN n
  ru : ∀ i,-1 <= n.rule.getD i (-1) /\ n.rule.getD i (-1) < 16
theorem OkM.addState {n : Nfa} (h : OkM n) : OkM (addState n):=by
  refine ⟨by simp [W.addState,h.lF,kN],by simp [W.addState,h.lT,kN],by simp [W.addState,h.lR,kN],fun i x hx=>?_,fun i hi=>?_,fun i=>?_⟩
  · rw [ja2]
    simp only [W.addState,jbj] at hx
    split at hx
    · cases hx
    · have:=h.fr i x hx;omega
  · rw [ja2]
    simp only [W.addState,jbj] at hi ⊢
    split at hi
    · exact absurd rfl hi
    · have:=h.st i hi
      split
      · omega
      · omega
  · simp only [W.addState,jbj]
    split
    · omega
    · exact h.ru i
theorem OkM.addFree {n : Nfa} (h : OkM n) (f : Nat) (t : Int) (ht : 0 <= t /\ t < kN n) : OkM (addFree n f t):=by
  refine ⟨by simp [W.addFree,h.lF,kN],h.lT,h.lR,fun i x hx=>?_,h.st,h.ru⟩
  simp only [W.addFree,jaR] at hx
  rw [jaI]
  split at hx
  · rcases List.mem_append.1 hx with hx | hx
    · exact h.fr f x hx
    · have : x = t:=by simpa using hx
      subst this;exact ht
  · exact h.fr i x hx
theorem OkM.setTo {n : Nfa} (h : OkM n) (i : Nat) (s : Int) (o : Nat) (ho : o < kN n) : OkM (setTo n i s o):=by
  refine ⟨by rw [jde];exact h.lF,by rw [jde];simpa [W.setTo] using h.lT,by rw [jde];exact h.lR,fun j x hx=>by rw [jde];exact h.fr j x hx,fun j hj=>?_,h.ru⟩
  rw [jde]
  simp only [W.setTo,jaR] at hj ⊢
  by_cases e : i = j /\ i < n.to.length
  · rw [if_pos e];omega
  · rw [if_neg e]
    rw [if_neg (by rw [h.lT] at e;exact e)] at hj
    exact h.st j hj
theorem OkM.catW (o : Nat) : ∀ (ps : List (Nat × Nat)) (n : Nfa) (last : Nat),OkM n -> o < kN n -> (∀ p ∈ ps,p.1 < kN n) -> OkM (catW o n last ps)
  | [],n,last,h,ho,_=>h.addFree last o ⟨by omega,by omega⟩
  | p :: r,n,last,h,ho,hp=>by
    have:=hp p (by simp)
    exact OkM.catW o r _ p.2 (h.addFree last p.1 ⟨by omega,by omega⟩) ho fun q hq=>hp q (by simp [hq])
theorem OkM.altW (i o : Nat) : ∀ (ps : List (Nat × Nat)) (n : Nfa),OkM n -> o < kN n -> (∀ p ∈ ps,p.1 < kN n) -> OkM (altW i o n ps)
  | [],n,h,ho,_=>h
  | p :: r,n,h,ho,hp=>by
    have:=hp p (by simp)
    exact OkM.altW i o r _ ((h.addFree i p.1 ⟨by omega,by omega⟩).addFree p.2 o ⟨by omega,by rw [jaI];omega⟩) ho fun q hq=>hp q (by simp [hq])
theorem OkM.optW {n : Nfa} (h : OkM n) (i o a b : Nat) (ha : a < kN n) (ho : o < kN n) : OkM (optW n i o a b):=
  ((h.addFree i a ⟨by omega,by omega⟩).addFree i o ⟨by omega,by rw [jaI];omega⟩).addFree b o ⟨by omega,by rw [jaI,jaI];omega⟩
theorem OkM.wire {n : Nfa} (h : OkM n) (k s : Int) (i o : Nat) (ps : List (Nat × Nat)) (ho : o < kN n) (hp : ∀ p ∈ ps,p.1 < kN n) : OkM (wire k s i o ps n):=by
  unfold W.wire
  split
  · exact h.addFree i o ⟨by omega,by omega⟩
  split
  · exact h.setTo i s o ho
  split
  · exact OkM.catW o ps n i h ho hp
  split
  · exact OkM.altW i o ps n h ho hp
  split
  · exact h
  · rename_i p r
    have:=hp p (by simp)
    split
    · exact (h.addFree p.2 p.1 ⟨by omega,by omega⟩).optW i o p.1 p.2 (by rw [jaI];omega) (by rw [jaI];omega)
    split
    · exact h.optW i o p.1 p.2 (by omega) ho
    · exact h
mutual
theorem OkM.makeN : ∀ (r : Rx) (n : Nfa),OkM n -> OkM (makeN r n).1
  | .mk k s l,n,h=>by
    have h1:=OkM.kidsN l (W.addState n) h.addState
    have hin:=jgQ l (W.addState n)
    have hk:=jcJ l (W.addState n)
    simp only [W.makeN]
    refine h1.addState.wire k s _ _ _ ?_ fun p hp=>?_
    · rw [ja2];simp only [kN];omega
    · have:=hin p hp;rw [ja2 (W.kidsN l (W.addState n)).1];omega
theorem OkM.kidsN : ∀ (l : List Rx) (n : Nfa),OkM n -> OkM (kidsN l n).1
  | [],n,h=>h
  | r :: l,n,h=>OkM.kidsN l _ (OkM.makeN r n h)
end
theorem OkM.setRule {n : Nfa} (h : OkM n) (o : Nat) (i : Int) (hi : 0 <= i /\ i < 16) : OkM (setRule n o i):=by
  refine ⟨h.lF,h.lT,by simpa [W.setRule] using h.lR,h.fr,h.st,fun j=>?_⟩
  simp only [W.setRule,jaR]
  split
  · omega
  · exact h.ru j
theorem sizes {l : List Rx} (h : ∀ r ∈ l,rightR r = true) : ∀ r ∈ l,sizeR r <= 100 /\ shapesR r = true:=fun r hr=>by
  have:=h r hr
  simp only [rightR,Bool.and_eq_true,decide_eq_true_eq] at this
  exact ⟨(jc2 _).1 this.1.2,this.2⟩
theorem jfj : ∀ (l : List Rx) (i : Nat) (n n' : Nfa),OkM n -> 1 <= kN n -> i + l.length <= 16 -> buildFrom i l n = some n' -> OkM n' /\ kN n' <= kN n + 200 * l.length /\ 1 <= kN n' /\ fN n' <= fN n + 700 * l.length
  | [],i,n,n',h,hk,hi,hb=>by
    have : n = n':=by simpa [buildFrom] using hb
    subst this
    exact ⟨h,by simp,hk,by simp⟩
  | r :: l,i,n,n',h,hk,hi,hb=>by
    rw [buildFrom] at hb
    split at hb
    · rename_i hr
      simp only [List.length_cons] at hi ⊢
      have e1:=jcH r n
      have e2:=jhY r n
      have e3:=jdm r n
      have hs:=(sizes (l:=[r]) (by simpa using hr) r (by simp)).1
      have hpos:=jaG r
      have h1:=OkM.makeN r n h
      have h2:=h1.addFree 0 (W.makeN r n).2.1 (by rw [e3];show 0 <= ((kN n : Nat) : Int) /\ ((kN n : Nat) : Int) < _;omega)
      have h3:=h2.setRule (W.makeN r n).2.2 i ⟨by omega,by omega⟩
      have hf:=jay (W.makeN r n).1 0 (W.makeN r n).2.1
      have hkk : kN (setRule (addFree (W.makeN r n).1 0 (W.makeN r n).2.1) (W.makeN r n).2.2 i) = kN (W.makeN r n).1:=rfl
      have hff : fN (setRule (addFree (W.makeN r n).1 0 (W.makeN r n).2.1) (W.makeN r n).2.2 i) = fN (addFree (W.makeN r n).1 0 (W.makeN r n).2.1):=rfl
      obtain ⟨g1,g2,g3,g4⟩:=jfj l (i + 1) _ n' h3 (by omega) (by omega) hb
      exact ⟨g1,by omega,g3,by omega⟩
    · cases hb
theorem jgR {α : Type} {l : List α} {i : Nat} {d e : α} (h : i < l.length) : l.getD i d = l.getD i e:=by simp [List.getD,h]
theorem jfP {l : List Rx} {n : Nfa} (h : buildN l = some n) : OkM n /\ OkN n /\ rightN n = true /\ l.length <= 16:=by
  unfold buildN at h
  split at h
  · rename_i hl
    have h0 : OkM (addState emptyN):=OkM.addState ⟨rfl,rfl,rfl,fun i x hx=>by simp [emptyN] at hx,fun i hi=>by simp [emptyN] at hi,fun i=>by simp [emptyN]⟩
    obtain ⟨g1,g2,g3,g4⟩:=jfj l 0 _ n h0 (by simp [kN,addState,emptyN]) (by omega) h
    have e1 : kN (addState emptyN) = 1:=rfl
    have e2 : fN (addState emptyN) = 0:=rfl
    refine ⟨g1,⟨by simp only [kN] at g2 e1 ⊢;omega,fun x hx=>?_⟩,?_,hl.2⟩
    · obtain ⟨i,hi,rfl⟩:=List.mem_iff_getElem.1 hx
      have:=fl_le n i
      simp [List.getD,hi] at this
      omega
    · have hk : 1 <= n.set.length /\ n.set.length <= 3300 /\ n.free.length = n.set.length /\ n.to.length = n.set.length /\ n.rule.length = n.set.length:=⟨g3,by simp only [kN] at g2 e1;omega,g1.lF,g1.lT,g1.lR⟩
      simp only [rightN,Bool.and_eq_true,decide_eq_true_eq,allN_iff]
      refine ⟨hk,fun i _ hi=>?_⟩
      have hru:=g1.ru i
      rw [jgR (d:=-1) (e:=0) (by omega)] at hru
      simp only [rowOk,Bool.and_eq_true,decide_eq_true_eq,List.all_eq_true,isS_iff,Bool.not_eq_true',Bool.and_eq_false_iff,decide_eq_false_iff_not,Bool.not_eq_false']
      refine ⟨⟨⟨?_,hru.1⟩,hru.2⟩,fun x hx=>g1.fr i x hx⟩
      by_cases hs : n.set.getD i 0 = 0
      · exact .inl (by simpa using hs)
      · exact .inr (g1.st i hs)
  · cases h
end Go.Proofs.W
end
section
namespace Go.Proofs.W
open Go Vm Go.Proofs.Zso
inductive Go1 (n : Nfa) (w : List Int) : Nat × Nat -> Nat × Nat -> Prop
  | eps {s t p : Nat} : (t : Int) ∈ n.free.getD s [] -> Go1 n w (s,p) (t,p)
  | sym {s t p : Nat} {c : Int} : w[p]? = some c -> hit n c s = true -> n.to.getD s 0 = (t : Int) -> Go1 n w (s,p) (t,p + 1)
inductive Path (n : Nfa) (w : List Int) : Nat × Nat -> Nat × Nat -> Prop
  | refl {x : Nat × Nat} : Path n w x x
  | step {x y z : Nat × Nat} : Path n w x y -> Go1 n w y z -> Path n w x z
theorem Path.trans {n : Nfa} {w : List Int} {x y z : Nat × Nat} (h : Path n w x y) (g : Path n w y z) : Path n w x z:=by
  induction g with
  | refl=>exact h
  | step _ g ih=>exact .step ih g
theorem Path.one {n : Nfa} {w : List Int} {x y : Nat × Nat} (h : Go1 n w x y) : Path n w x y:=.step .refl h
def FreeOnly (n : Nfa) (s : Nat) (l : List Nat) : Prop:=n.set.getD s 0 = 0 /\ n.free.getD s [] = l.map fun (t : Nat)=>(t : Int)
theorem jlb {n : Nfa} {c : Int} {s : Nat} (h : n.set.getD s 0 = 0) : hit n c s = false:=by
  rw [hit,h];simp [inB,je9]
abbrev endOf (r : Rx) (a : Nat) : Nat:=a + 2 * sizeR r - 1
mutual
def Frag (n : Nfa) : Rx -> Nat -> Prop
  | .mk k s l,a=>
    (if k = 1 then n.set.getD a 0 = s /\ n.to.getD a 0 = ((endOf (.mk k s l) a : Nat) : Int) /\ n.free.getD a [] = []
      else FreeOnly n a (if k = 0 then [endOf (.mk k s l) a] else if k = 2 then [a + 1] else if k = 3 then starts l (a + 1) else [a + 1,endOf (.mk k s l) a])) /\
    FragL n k (a + 1) (endOf (.mk k s l) a) l (a + 1)
def FragL (n : Nfa) (k : Int) (a0 b : Nat) : List Rx -> Nat -> Prop
  | [],_=>True
  | r :: l,a=>Frag n r a /\ FreeOnly n (endOf r a) (if k = 2 then [if l.isEmpty then b else a + 2 * sizeR r] else if k = 4 then [a0,b] else [b]) /\ FragL n k a0 b l (a + 2 * sizeR r)
def starts : List Rx -> Nat -> List Nat
  | [],_=>[]
  | r :: l,a=>a :: starts l (a + 2 * sizeR r)
end
def at' (l : List Bool) (p : Nat) : Prop:=l.getD p false = true
theorem at_or {a b : List Bool} {N p : Nat} (ha : a.length = N) (hb : b.length = N) : at' (orB a b) p ↔ at' a p ∨ at' b p:=by
  unfold at' orB
  rcases Nat.lt_or_ge p N with h | h
  · simp only [List.getD_eq_getElem?_getD,List.getElem?_zipWith,List.getElem?_eq_getElem (show p < a.length by omega),List.getElem?_eq_getElem (show p < b.length by omega)]
    simp
  · simp only [List.getD_eq_getElem?_getD,List.getElem?_zipWith,List.getElem?_eq_none (show a.length <= p by omega),List.getElem?_eq_none (show b.length <= p by omega)]
    simp
theorem jp9 {N p : Nat} : ¬ at' (List.replicate N false) p:=by
  unfold at'
  rw [List.getD_eq_getElem?_getD,List.getElem?_replicate]
  split <;> simp
theorem jmw {s : Int} {w : List Int} {fl : List Bool} {q : Nat} (hfl : fl.length = w.length + 1) : at' (stepB s w fl) q ↔ ∃ p c,q = p + 1 /\ at' fl p /\ w[p]? = some c /\ inB s c = true:=by
  unfold at' stepB
  cases q with
  | zero=>simp
  | succ p=>
    simp only [List.getD_eq_getElem?_getD,List.getElem?_cons_succ,List.getElem?_zipWith]
    rcases Nat.lt_or_ge p w.length with h | h
    · rw [List.getElem?_eq_getElem h,List.getElem?_eq_getElem (show p < fl.length by omega)]
      simp only [Option.getD_some,Bool.and_eq_true]
      constructor
      · rintro ⟨h1,h2⟩;exact ⟨p,w[p],rfl,by rw [List.getElem?_eq_getElem (show p < fl.length by omega)];simpa using h1,List.getElem?_eq_getElem h,h2⟩
      · rintro ⟨p',c,h1,h2,h3,h4⟩
        obtain rfl : p' = p:=by omega
        rw [List.getElem?_eq_getElem h] at h3
        cases h3
        rw [List.getElem?_eq_getElem (show p' < fl.length by omega)] at h2
        exact ⟨by simpa using h2,h4⟩
    · rw [List.getElem?_eq_none (show w.length <= p by omega)]
      constructor
      · intro h';cases hh : fl[p]? <;> simp [hh] at h'
      · rintro ⟨p',c,h1,h2,h3,h4⟩
        obtain rfl : p' = p:=by omega
        rw [List.getElem?_eq_none (show w.length <= p' by omega)] at h3;cases h3
def cfB (l : List Bool) : Nat:=(l.filter (!·)).length
theorem jwE (l : List Bool) : cfB l <= l.length:=List.length_filter_le _ _
theorem jxy : ∀ {a b : List Bool},a.length = b.length -> orB a b ≠ a -> cfB (orB a b) < cfB a:=by
  have le : ∀ {a b : List Bool},a.length = b.length -> cfB (orB a b) <= cfB a:=by
    intro a
    induction a with
    | nil=>intro b h;simp [orB,cfB]
    | cons x a ih=>
      intro b h
      cases b with
      | nil=>simp at h
      | cons y b=>
        have:=ih (b:=b) (by simpa using h)
        simp only [orB,cfB,List.zipWith_cons_cons] at this ⊢
        cases x <;> cases y <;> simp at this ⊢ <;> omega
  intro a
  induction a with
  | nil=>intro b h hne;simp [orB] at hne
  | cons x a ih=>
    intro b h hne
    cases b with
    | nil=>simp at h
    | cons y b=>
      have h1:=le (a:=a) (b:=b) (by simpa using h)
      have h2:=ih (b:=b) (by simpa using h)
      simp only [orB,cfB,List.zipWith_cons_cons] at h1 h2 hne ⊢
      cases x <;> cases y <;> simp at h1 h2 hne ⊢
      · exact h2 hne
      · omega
      · exact h2 hne
      · exact h2 hne
theorem jkE : ∀ {a b : List Bool},a.length = b.length -> cfB a = 0 -> orB a b = a
  | [],[],_,_=>rfl
  | [],_ :: _,h,_=>by simp at h
  | _ :: _,[],h,_=>by simp at h
  | x :: a,y :: b,h,h0=>by
    cases x with
    | false=>simp [cfB] at h0
    | true=>
      have:=jkE (a:=a) (b:=b) (by simpa using h) (by simpa [cfB] using h0)
      simp only [orB,List.zipWith_cons_cons] at this ⊢
      simp [this]
theorem jg2 {f : List Bool -> List Bool} {N : Nat} (hf : ∀ l,l.length = N -> (f l).length = N) : ∀ (m : Nat) (l : List Bool),l.length = N -> cfB l <= m -> orB (roundsB f false m l) (f (roundsB f false m l)) = roundsB f false m l
  | 0,l,h,hc=>by
    simp only [roundsB]
    exact jkE (by rw [h,hf l h]) (by omega)
  | m + 1,l,h,hc=>by
    simp only [roundsB]
    split
    · rename_i hh
      rcases hh with hh | hh
      · cases hh
      · rw [hh,hh]
    · rename_i hh
      have hne : orB l (f l) ≠ l:=fun e=>hh (.inr e)
      have:=jxy (by rw [h,hf l h]) hne
      exact jg2 hf m _ (ja6 h (hf l h)) (by omega)
theorem jef {f : List Bool -> List Bool} {N : Nat} (hf : ∀ l,l.length = N -> (f l).length = N) (P : List Bool -> Prop) (hP : ∀ l,l.length = N -> P l -> P (orB l (f l))) (one : Bool) : ∀ (m : Nat) (l : List Bool),l.length = N -> P l -> P (roundsB f one m l)
  | 0,l,_,h=>h
  | m + 1,l,hl,h=>by
    simp only [roundsB]
    split
    · exact hP l hl h
    · exact jef hf P hP one m _ (ja6 hl (hf l hl)) (hP l hl h)
end Go.Proofs.W
end
section
namespace Go.Proofs.W
open Go Vm Go.Proofs.Zso
theorem jbh {n : Nfa} {w : List Int} {s t p : Nat} {l : List Nat} (h : FreeOnly n s l) (ht : t ∈ l) : Go1 n w (s,p) (t,p):=
  .eps (by rw [h.2];exact List.mem_map.2 ⟨t,ht,rfl⟩)
mutual
theorem sound (n : Nfa) (w : List Int) : ∀ (r : Rx) (a : Nat) (fl : List Bool) (j : Nat),Frag n r a -> shapesR r = true -> fl.length = w.length + 1 -> at' (endsR w r fl) j -> ∃ i,at' fl i /\ Path n w (a,i) (endOf r a,j)
  | .mk k s l,a,fl,j,hf,hs,hfl,he=>by
    obtain ⟨h1,h2⟩:=hf
    simp only [shapesR,Bool.and_eq_true] at hs
    obtain ⟨hs1,hsl⟩:=hs
    simp only [shape1] at hs1
    simp only [endsR] at he
    by_cases h0 : k = 0
    · subst h0
      simp only [if_true] at he
      exact ⟨j,he,Path.one (jbh h1 (by simp))⟩
    rw [if_neg h0] at he
    by_cases hk1 : k = 1
    · subst hk1
      simp only [if_true] at he h1
      obtain ⟨p,c,rfl,g1,g2,g3⟩:=(jmw hfl).1 he
      exact ⟨p,g1,Path.one (.sym g2 (by rw [hit,h1.1];exact g3) h1.2.1)⟩
    rw [if_neg hk1] at he h1
    by_cases hk2 : k = 2
    · subst hk2
      simp only [if_true] at he
      have hne : l ≠ []:=by intro e;subst e;simp at hs1
      obtain ⟨i,g1,g2⟩:=jjZ n w (a + 1) (endOf (.mk 2 s l) a) l (a + 1) fl j h2 hsl hfl hne he
      exact ⟨i,g1,(Path.one (jbh h1 (by simp))).trans g2⟩
    rw [if_neg hk2] at he
    by_cases hk3 : k = 3
    · subst hk3
      simp only [if_true] at he
      obtain h | ⟨i,x,g0,g1,g2⟩:=jj9 n w (a + 1) (endOf (.mk 3 s l) a) l (a + 1) fl _ j h2 hsl hfl (by simp) he
      · exact absurd h jp9
      · exact ⟨i,g1,(Path.one (jbh h1 (by simpa using g0))).trans g2⟩
    rw [if_neg hk3] at he
    by_cases hk4 : k = 4 ∨ k = 5
    · rw [if_pos hk4] at he
      obtain ⟨x,rfl⟩ : ∃ x,l = [x]:=by
        have : l.length = 1:=by
          simp only [h0,hk1,hk2,hk3,if_false,or_self,if_pos hk4,Bool.and_eq_true] at hs1
          simpa using hs1.1
        match l,this with
        | [x],_=>exact ⟨x,rfl⟩
      simp only [FragL] at h2
      obtain ⟨hx,hout,-⟩:=h2
      simp only [shapesL,Bool.and_true] at hsl
      simp only [if_neg h0,if_neg hk2,if_neg hk3] at h1
      have hlen : ∀ y,y.length = w.length + 1 -> (endsOne w [x] y).length = w.length + 1:=fun y hy=>jaB w x y hy
      have kid : ∀ y j,y.length = w.length + 1 -> at' (endsOne w [x] y) j -> ∃ i,at' y i /\ Path n w (a + 1,i) (endOf x (a + 1),j):=fun y j hy h=>sound n w x (a + 1) y j hx hsl hy h
      have toB : ∀ j,Path n w (endOf x (a + 1),j) (endOf (.mk k s [x]) a,j):=fun j=>Path.one (jbh hout (by rcases hk4 with h | h <;> simp [h]))
      have aB : ∀ j,Path n w (a,j) (endOf (.mk k s [x]) a,j):=fun j=>Path.one (jbh h1 (by simp))
      have aA : ∀ j,Path n w (a,j) (a + 1,j):=fun j=>Path.one (jbh h1 (by simp))
      have fin : (∃ i,at' fl i /\ (i = j ∨ Path n w (a,i) (endOf x (a + 1),j))) -> ∃ i,at' fl i /\ Path n w (a,i) (endOf (.mk k s [x]) a,j):=by
        rintro ⟨i,g1,rfl | g2⟩
        · exact ⟨i,g1,aB i⟩
        · exact ⟨i,g1,g2.trans (toB j)⟩
      by_cases h4 : k = 4
      · subst h4
        have hback : ∀ j,Path n w (endOf x (a + 1),j) (a + 1,j):=fun j=>Path.one (jbh hout (by simp))
        have hinv:=jef hlen (fun L=>∀ j,at' L j -> ∃ i,at' fl i /\ (i = j ∨ Path n w (a,i) (endOf x (a + 1),j))) (fun L hL hP j hj=>by
          rcases (at_or hL (hlen L hL)).1 hj with hj | hj
          · exact hP j hj
          · obtain ⟨i',g1,g2⟩:=kid L j hL hj
            obtain ⟨i,g3,rfl | g4⟩:=hP i' g1
            · exact ⟨i,g3,.inr ((aA i).trans g2)⟩
            · exact ⟨i,g3,.inr ((g4.trans (hback i')).trans g2)⟩) (4 == 5) (w.length + 1) fl hfl (fun j hj=>⟨j,hj,.inl rfl⟩)
        exact fin (hinv j he)
      · have h5 : k = 5:=by rcases hk4 with h | h;exact absurd h h4;exact h
        subst h5
        have hone : roundsB (endsOne w [x]) ((5 : Int) == 5) (w.length + 1) fl = orB fl (endsOne w [x] fl):=by simp [roundsB]
        rw [hone] at he
        rcases (at_or hfl (hlen fl hfl)).1 he with hj | hj
        · exact ⟨j,hj,aB j⟩
        · obtain ⟨i,g1,g2⟩:=kid fl j hfl hj
          exact ⟨i,g1,((aA i).trans g2).trans (toB j)⟩
    · rw [if_neg hk4] at he
      exact absurd he jp9
theorem jjZ (n : Nfa) (w : List Int) (a0 b : Nat) : ∀ (l : List Rx) (a : Nat) (fl : List Bool) (j : Nat),FragL n 2 a0 b l a -> shapesL l = true -> fl.length = w.length + 1 -> l ≠ [] -> at' (endsCat w l fl) j -> ∃ i,at' fl i /\ Path n w (a,i) (b,j)
  | [],a,fl,j,_,_,_,hne,_=>absurd rfl hne
  | r :: l,a,fl,j,hf,hs,hfl,_,he=>by
    simp only [FragL,if_true] at hf
    obtain ⟨h1,h2,h3⟩:=hf
    simp only [shapesL,Bool.and_eq_true] at hs
    simp only [endsCat] at he
    by_cases hl : l = []
    · subst hl
      simp only [endsCat] at he
      obtain ⟨i,g1,g2⟩:=sound n w r a fl j h1 hs.1 hfl he
      exact ⟨i,g1,g2.trans (Path.one (jbh h2 (by simp)))⟩
    · obtain ⟨i,g1,g2⟩:=jjZ n w a0 b l _ _ j h3 hs.2 (jaB w r fl hfl) hl he
      obtain ⟨i',g3,g4⟩:=sound n w r a fl i h1 hs.1 hfl g1
      have hne : l.isEmpty = false:=by cases l with | nil=>exact absurd rfl hl | cons x y=>rfl
      exact ⟨i',g3,(g4.trans (Path.one (jbh h2 (by simp [hne])))).trans g2⟩
theorem jj9 (n : Nfa) (w : List Int) (a0 b : Nat) : ∀ (l : List Rx) (a : Nat) (fl acc : List Bool) (j : Nat),FragL n 3 a0 b l a -> shapesL l = true -> fl.length = w.length + 1 -> acc.length = w.length + 1 -> at' (endsAlt w l fl acc) j -> at' acc j ∨ ∃ i x,x ∈ starts l a /\ at' fl i /\ Path n w (x,i) (b,j)
  | [],a,fl,acc,j,_,_,_,_,he=>.inl he
  | r :: l,a,fl,acc,j,hf,hs,hfl,hacc,he=>by
    simp only [FragL] at hf
    obtain ⟨h1,h2,h3⟩:=hf
    simp only [shapesL,Bool.and_eq_true] at hs
    simp only [endsAlt] at he
    rcases jj9 n w a0 b l _ fl _ j h3 hs.2 hfl (ja6 hacc (jaB w r fl hfl)) he with h | ⟨i,x,g0,g1,g2⟩
    · rcases (at_or hacc (jaB w r fl hfl)).1 h with h | h
      · exact .inl h
      · obtain ⟨i,g1,g2⟩:=sound n w r a fl j h1 hs.1 hfl h
        exact .inr ⟨i,a,by simp [starts],g1,g2.trans (Path.one (jbh h2 (by simp)))⟩
    · exact .inr ⟨i,x,by simp [starts,g0],g1,g2⟩
end
end Go.Proofs.W
end
section
namespace Go.Proofs.W
open Go Vm Go.Proofs.Zso
mutual
def Good (w : List Int) : Rx -> Nat -> List Bool -> Nat -> Nat -> Prop
  | .mk k s l,a,fl,x,p=>(x = a /\ at' fl p) ∨ (x = endOf (.mk k s l) a /\ at' (endsR w (.mk k s l) fl) p) ∨ GoodL w k l (a + 1) (if k = 4 then endsR w (.mk k s l) fl else fl) x p
def GoodL (w : List Int) (k : Int) : List Rx -> Nat -> List Bool -> Nat -> Nat -> Prop
  | [],_,_,_,_=>False
  | r :: l,a,fl,x,p=>Good w r a fl x p ∨ GoodL w k l (a + 2 * sizeR r) (if k = 2 then endsR w r fl else fl) x p
end
mutual
theorem jku (w : List Int) : ∀ (r : Rx) (a : Nat) (fl : List Bool) (x p : Nat),Good w r a fl x p -> a <= x /\ x <= endOf r a
  | .mk k s l,a,fl,x,p,h=>by
    simp only [Good] at h
    have : endOf (.mk k s l) a = a + 2 * sizeL l + 1:=by simp [endOf,sizeR];omega
    rcases h with ⟨rfl,_⟩ | ⟨rfl,_⟩ | h
    · omega
    · omega
    · have:=jds w k l (a + 1) _ x p h
      omega
theorem jds (w : List Int) (k : Int) : ∀ (l : List Rx) (a : Nat) (fl : List Bool) (x p : Nat),GoodL w k l a fl x p -> a <= x /\ x < a + 2 * sizeL l
  | [],a,fl,x,p,h=>by simp [GoodL] at h
  | r :: l,a,fl,x,p,h=>by
    simp only [GoodL] at h
    have hp:=jaG r
    simp only [sizeL]
    rcases h with h | h
    · have:=jku w r a fl x p h
      simp only [endOf] at this;omega
    · have:=jds w k l _ _ x p h;omega
end
theorem jcp (w : List Int) (r : Rx) (a : Nat) {fl : List Bool} {p : Nat} (h : at' fl p) : Good w r a fl a p:=by
  cases r;simp only [Good];exact .inl ⟨trivial,h⟩
theorem jlf (w : List Int) (r : Rx) (a : Nat) {fl : List Bool} {p : Nat} (h : Good w r a fl (endOf r a) p) : at' (endsR w r fl) p:=by
  cases r with
  | mk k s l=>
    simp only [Good] at h
    have he : endOf (.mk k s l) a = a + 2 * sizeL l + 1:=by simp [endOf,sizeR];omega
    rcases h with ⟨h,_⟩ | ⟨_,h⟩ | h
    · omega
    · exact h
    · have:=jds w k l (a + 1) _ _ p h;omega
theorem jbJ {n : Nfa} {w : List Int} {s p : Nat} {y : Nat × Nat} {l : List Nat} (h : FreeOnly n s l) (g : Go1 n w (s,p) y) : ∃ t ∈ l,y = (t,p):=by
  cases g with
  | eps ht=>
    rw [h.2] at ht
    obtain ⟨t',h1,h2⟩:=List.mem_map.1 ht
    exact ⟨t',h1,by rw [show t' = _ from Int.ofNat_inj.1 h2]⟩
  | sym _ hh _=>rw [jlb h.1] at hh;cases hh
theorem jcO (w : List Int) (k : Int) (hk : k ≠ 2) : ∀ (l : List Rx) (a : Nat) {fl : List Bool} {p t : Nat},t ∈ starts l a -> at' fl p -> GoodL w k l a fl t p
  | [],a,fl,p,t,h,_=>by simp [starts] at h
  | r :: l,a,fl,p,t,h,hp=>by
    simp only [starts,List.mem_cons] at h
    simp only [GoodL,if_neg hk]
    rcases h with rfl | h
    · exact .inl (jcp w r _ hp)
    · exact .inr (jcO w k hk l _ h hp)
theorem jmW (w : List Int) : ∀ (l : List Rx) (fl acc : List Bool) (p : Nat),fl.length = w.length + 1 -> acc.length = w.length + 1 -> at' acc p -> at' (endsAlt w l fl acc) p
  | [],fl,acc,p,_,_,h=>h
  | r :: l,fl,acc,p,hfl,hacc,h=>by
    simp only [endsAlt]
    exact jmW w l fl _ p hfl (ja6 hacc (jaB w r fl hfl)) ((at_or hacc (jaB w r fl hfl)).2 (.inl h))
theorem jmX (w : List Int) : ∀ (l : List Rx) (fl acc : List Bool) (p : Nat),fl.length = w.length + 1 -> acc.length = w.length + 1 -> (∃ r ∈ l,at' (endsR w r fl) p) -> at' (endsAlt w l fl acc) p
  | [],fl,acc,p,_,_,⟨r,h,_⟩=>by cases h
  | r :: l,fl,acc,p,hfl,hacc,⟨r',h,hp⟩=>by
    simp only [endsAlt]
    have hl:=ja6 hacc (jaB w r fl hfl)
    rcases List.mem_cons.1 h with rfl | h
    · exact jmW w l fl _ p hfl hl ((at_or hacc (jaB w r' fl hfl)).2 (.inr hp))
    · exact jmX w l fl _ p hfl hl ⟨r',h,hp⟩
def ExitAt (w : List Int) (k : Int) (l : List Rx) (fl : List Bool) (p : Nat) : Prop:=if k = 2 then at' (endsCat w l fl) p else ∃ r ∈ l,at' (endsR w r fl) p
mutual
theorem jiH (n : Nfa) (w : List Int) : ∀ (r : Rx) (a : Nat) (fl : List Bool) (x p : Nat) (y : Nat × Nat),Frag n r a -> shapesR r = true -> fl.length = w.length + 1 -> Good w r a fl x p -> x ≠ endOf r a -> Go1 n w (x,p) y -> Good w r a fl y.1 y.2
  | .mk k s l,a,fl,x,p,y,hf,hs,hfl,hg,hx,g=>by
    obtain ⟨h1,h2⟩:=hf
    simp only [shapesR,Bool.and_eq_true] at hs
    obtain ⟨hs1,hsl⟩:=hs
    simp only [shape1] at hs1
    have hE:=jaB w (.mk k s l) fl hfl
    have hlen : ∀ y,y.length = w.length + 1 -> (endsOne w l y).length = w.length + 1:=fun y hy=>jge w l y hy
    have hstar : k = 4 -> (∀ p,at' fl p -> at' (endsR w (.mk k s l) fl) p) /\ (∀ p,at' (endsOne w l (endsR w (.mk k s l) fl)) p -> at' (endsR w (.mk k s l) fl) p):=by
      rintro rfl
      have e : endsR w (.mk 4 s l) fl = roundsB (endsOne w l) false (w.length + 1) fl:=by rw [endsR];rfl
      rw [e] at hE ⊢
      have hfix:=jg2 hlen (w.length + 1) fl hfl (by have:=jwE fl;omega)
      refine ⟨fun p hp=>?_,fun p hp=>?_⟩
      · exact jef hlen (fun L=>at' L p) (fun L hL h=>(at_or hL (hlen L hL)).2 (.inl h)) false _ fl hfl hp
      · rw [<- hfix];exact (at_or hE (hlen _ hE)).2 (.inr hp)
    have hopt : k = 5 -> endsR w (.mk k s l) fl = orB fl (endsOne w l fl):=by
      rintro rfl
      have e : endsR w (.mk 5 s l) fl = roundsB (endsOne w l) ((5 : Int) == 5) (w.length + 1) fl:=by rw [endsR];rfl
      rw [e];simp [roundsB]
    have hone : k = 4 ∨ k = 5 -> ∃ z,l = [z]:=fun hk=>by
      have : l.length = 1:=by
        have e0 : ¬ k = 0:=by omega
        have e1 : ¬ k = 1:=by omega
        have e2 : ¬ (k = 2 ∨ k = 3):=by omega
        simp only [e0,e1,e2,if_false,if_pos hk,Bool.and_eq_true] at hs1
        simpa using hs1.1
      match l,this with
      | [z],_=>exact ⟨z,rfl⟩
    simp only [Good] at hg ⊢
    rcases hg with ⟨rfl,hp⟩ | ⟨h,_⟩ | hg
    · by_cases h0 : k = 0
      · subst h0
        obtain ⟨t,ht,rfl⟩:=jbJ (by simpa using h1) g
        simp at ht;subst ht
        exact .inr (.inl ⟨rfl,by simpa [endsR] using hp⟩)
      by_cases hk1 : k = 1
      · subst hk1
        simp only [if_true] at h1
        cases g with
        | eps ht=>rw [h1.2.2] at ht;cases ht
        | sym g1 g2 g3=>
          rw [h1.2.1] at g3
          refine .inr (.inl ⟨(Int.ofNat_inj.1 g3).symm,?_⟩)
          have : endsR w (.mk 1 s l) fl = stepB s w fl:=by simp [endsR]
          rw [this]
          exact (jmw hfl).2 ⟨p,_,rfl,hp,g1,by rw [hit,h1.1] at g2;exact g2⟩
      rw [if_neg hk1] at h1
      by_cases hk2 : k = 2
      · subst hk2
        obtain ⟨t,ht,rfl⟩:=jbJ (by simpa using h1) g
        simp at ht;subst ht
        cases l with
        | nil=>simp at hs1
        | cons z l=>exact .inr (.inr (by simp only [GoodL];exact .inl (jcp w z _ (by simpa using hp))))
      by_cases hk3 : k = 3
      · subst hk3
        obtain ⟨t,ht,rfl⟩:=jbJ (by simpa using h1) g
        exact .inr (.inr (jcO w 3 (by omega) l _ ht (by simpa using hp)))
      by_cases hk4 : k = 4 ∨ k = 5
      · obtain ⟨z,rfl⟩:=hone hk4
        simp only [if_neg h0,if_neg hk2,if_neg hk3] at h1
        obtain ⟨t,ht,rfl⟩:=jbJ h1 g
        simp only [List.mem_cons,List.not_mem_nil,or_false] at ht
        have hfl' : at' (if k = 4 then endsR w (.mk k s [z]) fl else fl) p:=by
          by_cases h4 : k = 4
          · rw [if_pos h4];exact (hstar h4).1 p hp
          · rw [if_neg h4];exact hp
        rcases ht with rfl | rfl
        · exact .inr (.inr (by simp only [GoodL];exact .inl (jcp w z _ hfl')))
        · refine .inr (.inl ⟨rfl,?_⟩)
          rcases hk4 with h4 | h5
          · exact (hstar h4).1 p hp
          · rw [hopt h5];exact (at_or hfl (hlen fl hfl)).2 (.inl hp)
      · exfalso
        have e2 : ¬ (k = 2 ∨ k = 3):=by omega
        simp [h0,hk1,e2,hk4] at hs1
    · exact absurd h hx
    · have hin : (if k = 4 then endsR w (.mk k s l) fl else fl).length = w.length + 1:=by split;exact hE;exact hfl
      rcases jhi n w k (a + 1) (endOf (.mk k s l) a) l (a + 1) _ x p y h2 hsl hin hg g with h | ⟨q,hy,hex⟩
      · exact .inr (.inr h)
      · by_cases hk2 : k = 2
        · subst hk2
          have hy' : y = (endOf (.mk 2 s l) a,q):=by rcases hy with h | ⟨h,_⟩;exact h;omega
          subst hy'
          refine .inr (.inl ⟨rfl,?_⟩)
          simpa [ExitAt,endsR] using hex
        rw [ExitAt,if_neg hk2] at hex
        by_cases h4 : k = 4
        · obtain ⟨z,rfl⟩:=hone (.inl h4)
          obtain ⟨r,hr,hp⟩:=hex
          obtain rfl : r = z:=by simpa using hr
          rw [if_pos h4] at hp
          have hX:=(hstar h4).2 q hp
          rcases hy with rfl | ⟨_,rfl⟩
          · exact .inr (.inl ⟨rfl,hX⟩)
          · exact .inr (.inr (by simp only [GoodL];exact .inl (jcp w r _ (by rw [if_pos h4];exact hX))))
        · have hy' : y = (endOf (.mk k s l) a,q):=by rcases hy with h | ⟨h,_⟩;exact h;exact absurd h h4
          subst hy'
          rw [if_neg h4] at hex
          refine .inr (.inl ⟨rfl,?_⟩)
          by_cases h5 : k = 5
          · obtain ⟨z,rfl⟩:=hone (.inr h5)
            obtain ⟨r,hr,hp⟩:=hex
            obtain rfl : r = z:=by simpa using hr
            rw [hopt h5]
            exact (at_or hfl (hlen fl hfl)).2 (.inr hp)
          · by_cases h3 : k = 3
            · subst h3
              have e : endsR w (.mk 3 s l) fl = endsAlt w l fl (List.replicate (w.length + 1) false):=by rw [endsR];rfl
              rw [e]
              exact jmX w l fl _ q hfl (by simp) hex
            · exfalso
              obtain ⟨r,hr,_⟩:=hex
              by_cases h0 : k = 0
              · subst h0;simp at hs1;rw [hs1.1] at hr;cases hr
              · by_cases h1 : k = 1
                · subst h1;simp at hs1;rw [hs1.1] at hr;cases hr
                · simp [h0,h1,show ¬ (k = 2 ∨ k = 3) by omega,show ¬ (k = 4 ∨ k = 5) by omega] at hs1
theorem jhi (n : Nfa) (w : List Int) (k : Int) (a0 b : Nat) : ∀ (l : List Rx) (a : Nat) (fl : List Bool) (x p : Nat) (y : Nat × Nat),FragL n k a0 b l a -> shapesL l = true -> fl.length = w.length + 1 -> GoodL w k l a fl x p -> Go1 n w (x,p) y -> GoodL w k l a fl y.1 y.2 ∨ ∃ q,(y = (b,q) ∨ (k = 4 /\ y = (a0,q))) /\ ExitAt w k l fl q
  | [],a,fl,x,p,y,_,_,_,hg,_=>by simp [GoodL] at hg
  | r :: l,a,fl,x,p,y,hf,hs,hfl,hg,g=>by
    simp only [FragL] at hf
    obtain ⟨h1,h2,h3⟩:=hf
    simp only [shapesL,Bool.and_eq_true] at hs
    simp only [GoodL] at hg ⊢
    rcases hg with hg | hg
    · by_cases hx : x = endOf r a
      · subst hx
        have hp:=jlf w r a hg
        obtain ⟨t,ht,rfl⟩:=jbJ h2 g
        by_cases hk2 : k = 2
        · subst hk2
          simp only [if_true] at ht ⊢
          cases l with
          | nil=>
            simp at ht;subst ht
            exact .inr ⟨p,.inl rfl,by simpa [ExitAt,endsCat] using hp⟩
          | cons z l=>
            simp at ht;subst ht
            exact .inl (.inr (by simp only [GoodL];exact .inl (jcp w z _ hp)))
        · rw [if_neg hk2] at ht
          have hex : ExitAt w k (r :: l) fl p:=by rw [ExitAt,if_neg hk2];exact ⟨r,by simp,hp⟩
          by_cases h4 : k = 4
          · rw [if_pos h4] at ht
            simp at ht
            rcases ht with rfl | rfl
            · exact .inr ⟨p,.inr ⟨h4,rfl⟩,hex⟩
            · exact .inr ⟨p,.inl rfl,hex⟩
          · rw [if_neg h4] at ht
            simp at ht;subst ht
            exact .inr ⟨p,.inl rfl,hex⟩
      · exact .inl (.inl (jiH n w r a fl x p y h1 hs.1 hfl hg hx g))
    · have hl' : (if k = 2 then endsR w r fl else fl).length = w.length + 1:=by split;exact jaB w r fl hfl;exact hfl
      rcases jhi n w k a0 b l _ _ x p y h3 hs.2 hl' hg g with h | ⟨q,hy,hex⟩
      · exact .inl (.inr h)
      · refine .inr ⟨q,hy,?_⟩
        by_cases hk2 : k = 2
        · subst hk2
          simpa [ExitAt,endsCat] using hex
        · rw [ExitAt,if_neg hk2] at hex ⊢
          rw [if_neg hk2] at hex
          obtain ⟨r',hr',h⟩:=hex
          exact ⟨r',by simp [hr'],h⟩
end
end Go.Proofs.W
end
section
namespace Go.Proofs.W
open Go Vm Go.Proofs.Zso
def SameS (n n' : Nfa) (s : Nat) : Prop:=n'.set.getD s 0 = n.set.getD s 0 /\ n'.to.getD s 0 = n.to.getD s 0 /\ n'.free.getD s [] = n.free.getD s []
theorem SameS.refl {n : Nfa} {s : Nat} : SameS n n s:=⟨rfl,rfl,rfl⟩
theorem SameS.trans {n n1 n2 : Nfa} {s : Nat} (h : SameS n n1 s) (g : SameS n1 n2 s) : SameS n n2 s:=⟨g.1.trans h.1,g.2.1.trans h.2.1,g.2.2.trans h.2.2⟩
theorem SameS.only {n n' : Nfa} {s : Nat} {l : List Nat} (h : SameS n n' s) (g : FreeOnly n s l) : FreeOnly n' s l:=⟨by rw [h.1];exact g.1,by rw [h.2.2];exact g.2⟩
theorem jeo (k s : Int) (l : List Rx) (a : Nat) : endOf (.mk k s l) a = a + 2 * sizeL l + 1:=by simp [endOf,sizeR];omega
mutual
theorem jbK {n n' : Nfa} : ∀ (r : Rx) (a : Nat),(∀ s,a <= s -> s < endOf r a -> SameS n n' s) -> Frag n r a -> Frag n' r a
  | .mk k s l,a,h,hf=>by
    rw [jeo] at h
    obtain ⟨h1,h2⟩:=hf
    have ha:=h a (Nat.le_refl _) (by omega)
    refine ⟨?_,jhB k (a + 1) _ l (a + 1) (fun s h3 h4=>h s (by omega) (by omega)) h2⟩
    split at h1
    · rename_i hk
      rw [if_pos hk]
      exact ⟨by rw [ha.1];exact h1.1,by rw [ha.2.1];exact h1.2.1,by rw [ha.2.2];exact h1.2.2⟩
    · rename_i hk
      rw [if_neg hk]
      exact ha.only h1
theorem jhB {n n' : Nfa} (k : Int) (a0 b : Nat) : ∀ (l : List Rx) (a : Nat),(∀ s,a <= s -> s < a + 2 * sizeL l -> SameS n n' s) -> FragL n k a0 b l a -> FragL n' k a0 b l a
  | [],_,_,_=>trivial
  | r :: l,a,h,hf=>by
    obtain ⟨h1,h2,h3⟩:=hf
    have hp:=jaG r
    simp only [sizeL] at h
    exact ⟨jbK r a (fun s g1 g2=>h s g1 (by simp only [endOf] at g2;omega)) h1,(h (endOf r a) (by simp only [endOf];omega) (by simp only [endOf];omega)).only h2,jhB k a0 b l _ (fun s g1 g2=>h s (by omega) (by omega)) h3⟩
end
def FragR (n : Nfa) : List Rx -> Nat -> Prop
  | [],_=>True
  | r :: l,a=>Frag n r a /\ FreeOnly n (endOf r a) [] /\ FragR n l (a + 2 * sizeR r)
theorem jcr {n n' : Nfa} : ∀ (l : List Rx) (a : Nat),(∀ s,a <= s -> s < a + 2 * sizeL l -> SameS n n' s) -> FragR n l a -> FragR n' l a
  | [],_,_,_=>trivial
  | r :: l,a,h,hf=>by
    obtain ⟨h1,h2,h3⟩:=hf
    have hp:=jaG r
    simp only [sizeL] at h
    exact ⟨jbK r a (fun s g1 g2=>h s g1 (by simp only [endOf] at g2;omega)) h1,(h (endOf r a) (by simp only [endOf];omega) (by simp only [endOf];omega)).only h2,jcr l _ (fun s g1 g2=>h s (by omega) (by omega)) h3⟩
def posL : List Rx -> Nat -> List (Nat × Nat)
  | [],_=>[]
  | r :: l,a=>(a,endOf r a) :: posL l (a + 2 * sizeR r)
theorem jj2 : ∀ (l : List Rx) (n : Nfa),(kidsN l n).2 = posL l (kN n)
  | [],n=>rfl
  | r :: l,n=>by simp only [kidsN,posL,jdm,jj2 l,jcH]
theorem jav {n : Nfa} {f : Nat} {t : Int} {s : Nat} (h : s ≠ f) : SameS n (addFree n f t) s:=by
  refine ⟨rfl,rfl,?_⟩
  simp only [addFree,jaR]
  rw [if_neg (fun e=>h e.1.symm)]
theorem jaV {n : Nfa} {f t : Nat} {l : List Nat} (hf : f < n.free.length) (h : FreeOnly n f l) : FreeOnly (addFree n f (t : Int)) f (l ++ [t]):=by
  refine ⟨h.1,?_⟩
  simp only [addFree,jaR]
  rw [if_pos ⟨trivial,hf⟩,h.2];simp
theorem jex {n : Nfa} (h1 : n.free.length = kN n) (h2 : n.to.length = kN n) {s : Nat} (hs : s ≠ kN n) : SameS n (addState n) s:=by
  simp only [kN] at hs h1 h2
  refine ⟨?_,?_,?_⟩ <;> simp only [addState,jbj]
  · rw [if_neg hs]
  · rw [h2,if_neg hs]
  · rw [h1,if_neg hs]
theorem jeS {n : Nfa} (h1 : n.free.length = kN n) : FreeOnly (addState n) (kN n) []:=by
  simp only [kN] at h1 ⊢
  refine ⟨?_,?_⟩ <;> simp only [addState,jbj]
  · simp
  · rw [h1];simp
theorem jiR (a0 o : Nat) : ∀ (l : List Rx) (n : Nfa) (last a : Nat),n.free.length = kN n -> a + 2 * sizeL l <= o -> o < kN n -> last < a -> FreeOnly n last [] -> FragR n l a ->
    FreeOnly (catW o n last (posL l a)) last [if l.isEmpty then o else a] /\ FragL (catW o n last (posL l a)) 2 a0 o l a /\ ∀ s,s ≠ last -> (s < a ∨ a + 2 * sizeL l <= s) -> SameS n (catW o n last (posL l a)) s
  | [],n,last,a,hlen,ho,hon,hl,hF,_=>by
    simp only [posL,catW]
    exact ⟨by simpa using jaV (l:=[]) (t:=o) (by omega) hF,trivial,fun s hs _=>jav hs⟩
  | r :: l,n,last,a,hlen,ho,hon,hl,hF,hR=>by
    obtain ⟨r1,r2,r3⟩:=hR
    have hp:=jaG r
    simp only [sizeL] at ho
    simp only [posL,catW]
    have hsame : ∀ s,s ≠ last -> SameS n (addFree n last (a : Int)) s:=fun s hs=>jav hs
    have hlen1 : (addFree n last (a : Int)).free.length = kN (addFree n last (a : Int)):=by rw [jaI,(jbC n last _).2,hlen]
    obtain ⟨g1,g2,g3⟩:=jiR a0 o l (addFree n last (a : Int)) (endOf r a) (a + 2 * sizeR r) hlen1 (by omega) hon (by simp only [endOf];omega) ((hsame _ (by simp only [endOf];omega)).only r2) (jcr l _ (fun s h1 h2=>hsame s (by omega)) r3)
    have hlast:=g3 last (by simp only [endOf];omega) (.inl (by omega))
    refine ⟨?_,⟨jbK r a (fun s h1 h2=>(hsame s (by omega)).trans (g3 s (by omega) (.inl (by simp only [endOf] at h2;omega)))) r1,?_,g2⟩,fun s hs h=>?_⟩
    · have:=jaV (t:=a) (l:=[]) (by omega) hF
      simpa using hlast.only this
    · simpa using g1
    · simp only [sizeL] at h
      exact (hsame s hs).trans (g3 s (by simp only [endOf];omega) (by omega))
theorem jio (a0 i o : Nat) : ∀ (l : List Rx) (n : Nfa) (a : Nat) (F : List Nat),n.free.length = kN n -> a + 2 * sizeL l <= o -> o < kN n -> i < a -> FreeOnly n i F -> FragR n l a ->
    FreeOnly (altW i o n (posL l a)) i (F ++ starts l a) /\ FragL (altW i o n (posL l a)) 3 a0 o l a /\ ∀ s,s ≠ i -> (s < a ∨ a + 2 * sizeL l <= s) -> SameS n (altW i o n (posL l a)) s
  | [],n,a,F,hlen,ho,hon,hi,hF,_=>by
    simp only [posL,altW,starts,List.append_nil]
    exact ⟨hF,trivial,fun s _ _=>SameS.refl⟩
  | r :: l,n,a,F,hlen,ho,hon,hi,hF,hR=>by
    obtain ⟨r1,r2,r3⟩:=hR
    have hp:=jaG r
    simp only [sizeL] at ho
    simp only [posL,altW]
    have hne : endOf r a ≠ i:=by simp only [endOf];omega
    have hs1 : ∀ s,s ≠ i -> SameS n (addFree n i (a : Int)) s:=fun s hs=>jav hs
    have hs2 : ∀ s,s ≠ endOf r a -> SameS (addFree n i (a : Int)) (addFree (addFree n i (a : Int)) (endOf r a) (o : Int)) s:=fun s hs=>jav hs
    have hlen1 : (addFree n i (a : Int)).free.length = kN n:=by rw [(jbC n i _).2,hlen]
    have hlen2 : (addFree (addFree n i (a : Int)) (endOf r a) (o : Int)).free.length = kN n:=by rw [(jbC _ _ _).2,hlen1]
    have hFi : FreeOnly (addFree (addFree n i (a : Int)) (endOf r a) (o : Int)) i (F ++ [a]):=(hs2 i (fun e=>hne e.symm)).only (jaV (by omega) hF)
    have hEo : FreeOnly (addFree (addFree n i (a : Int)) (endOf r a) (o : Int)) (endOf r a) [o]:=by
      have:=jaV (t:=o) (l:=[]) (by rw [hlen1];simp only [endOf];omega) ((hs1 _ hne).only r2)
      simpa using this
    generalize hN : addFree (addFree n i (a : Int)) (endOf r a) (o : Int) = N at *
    have hkN : kN N = kN n:=by rw [<- hN];rfl
    obtain ⟨g1,g2,g3⟩:=jio a0 i o l N (a + 2 * sizeR r) (F ++ [a]) (by rw [hlen2,hkN]) (by omega) (by omega) (by omega) hFi (jcr l _ (fun s h1 h2=>(hs1 s (by omega)).trans (hs2 s (by simp only [endOf];omega))) r3)
    refine ⟨by simpa [starts] using g1,⟨jbK r a (fun s h1 h2=>((hs1 s (by omega)).trans (hs2 s (by omega))).trans (g3 s (by omega) (.inl (by simp only [endOf] at h2;omega)))) r1,?_,g2⟩,fun s hs h=>?_⟩
    · have:=(g3 (endOf r a) hne (.inl (by simp only [endOf];omega))).only hEo
      simpa using this
    · simp only [sizeL] at h
      exact ((hs1 s hs).trans (hs2 s (by simp only [endOf];omega))).trans (g3 s hs (by omega))
mutual
theorem jiU : ∀ (r : Rx) (n : Nfa),OkM n -> shapesR r = true -> Frag (makeN r n).1 r (kN n) /\ FreeOnly (makeN r n).1 (endOf r (kN n)) [] /\ ∀ s,s < kN n -> SameS n (makeN r n).1 s
  | .mk k s l,n,hn,hs=>by
    simp only [shapesR,Bool.and_eq_true] at hs
    obtain ⟨hs1,hsl⟩:=hs
    have hn1:=hn.addState
    obtain ⟨hR,hkeep⟩:=jid l (addState n) hn1 hsl
    have hk:=jcJ l (addState n)
    have hn2:=OkM.kidsN l (addState n) hn1
    have hpos:=jj2 l (addState n)
    rw [ja2] at hk hR hkeep hpos
    have hN3:=hn2.addState
    have hk3:=ja2 (kidsN l (addState n)).1
    have hend : endOf (.mk k s l) (kN n) = kN (kidsN l (addState n)).1:=by rw [jeo,hk];omega
    have hsame2 : ∀ x,x ≠ kN (kidsN l (addState n)).1 -> SameS (kidsN l (addState n)).1 (addState (kidsN l (addState n)).1) x:=fun x hx=>jex hn2.lF hn2.lT hx
    have ha : FreeOnly (addState (kidsN l (addState n)).1) (kN n) []:=(hsame2 _ (by omega)).only ((hkeep _ (by omega)).only (jeS hn.lF))
    have hb : FreeOnly (addState (kidsN l (addState n)).1) (endOf (.mk k s l) (kN n)) []:=by rw [hend];exact jeS hn2.lF
    have hR3 : FragR (addState (kidsN l (addState n)).1) l (kN n + 1):=jcr l _ (fun x h1 h2=>hsame2 x (by omega)) hR
    have hold : ∀ x,x < kN n -> SameS n (addState (kidsN l (addState n)).1) x:=fun x hx=>((jex hn.lF hn.lT (by omega)).trans (hkeep x (by omega))).trans (hsame2 x (by omega))
    have hmk : (makeN (.mk k s l) n).1 = wire k s (kN n) (endOf (.mk k s l) (kN n)) (posL l (kN n + 1)) (addState (kidsN l (addState n)).1):=by
      rw [makeN,hend];simp only [hpos]
    rw [hmk]
    have hlenF:=hN3.lF
    generalize hN : addState (kidsN l (addState n)).1 = N at *
    have hkN : kN N = kN n + 1 + 2 * sizeL l + 1:=by omega
    rw [jeo] at hb hend ⊢
    clear hmk hpos hsame2 hkeep hR hn1 hn2 hk3 hk hend
    have hEN : kN n + 2 * sizeL l + 1 < kN N:=by omega
    simp only [shape1] at hs1
    unfold wire
    simp only [Frag,jeo]
    have hAB : kN n + 2 * sizeL l + 1 ≠ kN n:=by omega
    by_cases h0 : k = 0
    · subst h0
      have hl : l = []:=by simp at hs1;exact hs1.1
      subst hl
      simp only [if_true,if_neg (show ¬ (0 : Int) = 1 by omega)]
      have h1:=jaV (t:=kN n + 2 * sizeL [] + 1) (by omega) ha
      exact ⟨⟨h1,trivial⟩,(jav hAB).only hb,fun x hx=>(hold x hx).trans (jav (by omega))⟩
    rw [if_neg h0]
    by_cases hk1 : k = 1
    · subst hk1
      have hl : l = []:=by simp at hs1;exact hs1.1
      subst hl
      simp only [if_true]
      have hlT:=hN3.lT
      have hget : ∀ x,x ≠ kN n -> SameS N (setTo N (kN n) s (kN n + 2 * sizeL [] + 1)) x:=fun x hx=>by
        refine ⟨?_,?_,rfl⟩ <;> simp only [setTo,jaR]
        · rw [if_neg (fun e=>hx e.1.symm)]
        · rw [if_neg (fun e=>hx e.1.symm)]
      refine ⟨⟨⟨?_,?_,?_⟩,trivial⟩,(hget _ hAB).only hb,fun x hx=>(hold x hx).trans (hget x (by omega))⟩
      · simp only [setTo,jaR];rw [if_pos ⟨trivial,by simp only [kN] at hkN ⊢;omega⟩]
      · simp only [setTo,jaR];rw [if_pos ⟨trivial,by simp only [kN] at hkN hlT ⊢;omega⟩]
      · have:=ha.2;simpa [setTo] using this
    rw [if_neg hk1,if_neg hk1]
    by_cases hk2 : k = 2
    · subst hk2
      simp only [if_true,if_neg (show ¬ (2 : Int) = 0 by omega)]
      have hne : l ≠ []:=by intro e;subst e;simp at hs1
      have hem : l.isEmpty = false:=by cases l with | nil=>exact absurd rfl hne | cons x y=>rfl
      obtain ⟨g1,g2,g3⟩:=jiR (kN n + 1) (kN n + 2 * sizeL l + 1) l N (kN n) (kN n + 1) hlenF (by omega) (by omega) (by omega) ha hR3
      rw [hem] at g1
      exact ⟨⟨by simpa using g1,g2⟩,(g3 _ hAB (.inr (by omega))).only hb,fun x hx=>(hold x hx).trans (g3 x (by omega) (.inl (by omega)))⟩
    rw [if_neg hk2]
    by_cases hk3 : k = 3
    · subst hk3
      simp only [if_true,if_neg (show ¬ (3 : Int) = 0 by omega),if_neg (show ¬ (3 : Int) = 2 by omega)]
      obtain ⟨g1,g2,g3⟩:=jio (kN n + 1) (kN n) (kN n + 2 * sizeL l + 1) l N (kN n + 1) [] hlenF (by omega) (by omega) (by omega) ha hR3
      exact ⟨⟨by simpa using g1,g2⟩,(g3 _ hAB (.inr (by omega))).only hb,fun x hx=>(hold x hx).trans (g3 x (by omega) (.inl (by omega)))⟩
    rw [if_neg hk3]
    have hk45 : k = 4 ∨ k = 5:=by
      by_cases h : k = 4 ∨ k = 5
      · exact h
      · simp [h0,hk1,show ¬ (k = 2 ∨ k = 3) by omega,h] at hs1
    obtain ⟨z,rfl⟩ : ∃ z,l = [z]:=by
      have : l.length = 1:=by
        simp only [h0,hk1,if_false,show ¬ (k = 2 ∨ k = 3) by omega,if_pos hk45,Bool.and_eq_true] at hs1
        simpa using hs1.1
      match l,this with
      | [z],_=>exact ⟨z,rfl⟩
    obtain ⟨r1,r2,-⟩:=hR3
    have hp:=jaG z
    simp only [posL,sizeL,Nat.add_zero] at hkN hb hAB hEN hlenF ⊢
    simp only [if_neg h0,if_neg hk2,if_neg hk3]
    have hne : endOf z (kN n + 1) ≠ kN n:=by simp only [endOf];omega
    have opt : ∀ (N' : Nfa) (F : List Nat),N'.free.length = kN N -> FreeOnly N' (kN n) [] -> FreeOnly N' (endOf z (kN n + 1)) F -> (∀ x,x ≠ endOf z (kN n + 1) -> SameS N N' x) ->
        FreeOnly (optW N' (kN n) (kN n + 2 * sizeR z + 1) (kN n + 1) (endOf z (kN n + 1))) (kN n) [kN n + 1,kN n + 2 * sizeR z + 1] /\ FreeOnly (optW N' (kN n) (kN n + 2 * sizeR z + 1) (kN n + 1) (endOf z (kN n + 1))) (endOf z (kN n + 1)) (F ++ [kN n + 2 * sizeR z + 1]) /\ ∀ x,x ≠ kN n -> x ≠ endOf z (kN n + 1) -> SameS N (optW N' (kN n) (kN n + 2 * sizeR z + 1) (kN n + 1) (endOf z (kN n + 1))) x:=by
      intro N' F hl hA hE hS
      have q1:=jaV (t:=kN n + 1) (by rw [hl];omega) hA
      have l1 : (addFree N' (kN n) ((kN n + 1 : Nat) : Int)).free.length = kN N:=by rw [(jbC _ _ _).2,hl]
      have q2:=jaV (t:=kN n + 2 * sizeR z + 1) (by rw [l1];omega) q1
      have l2 : (addFree (addFree N' (kN n) ((kN n + 1 : Nat) : Int)) (kN n) ((kN n + 2 * sizeR z + 1 : Nat) : Int)).free.length = kN N:=by rw [(jbC _ _ _).2,l1]
      have e2 : FreeOnly (addFree (addFree N' (kN n) ((kN n + 1 : Nat) : Int)) (kN n) ((kN n + 2 * sizeR z + 1 : Nat) : Int)) (endOf z (kN n + 1)) F:=((jav hne).trans (jav hne)).only hE
      have q3:=jaV (t:=kN n + 2 * sizeR z + 1) (by rw [l2];simp only [endOf];omega) e2
      exact ⟨by simpa [optW] using (jav (fun e=>hne e.symm)).only q2,q3,fun x hx hx2=>(((hS x hx2).trans (jav hx)).trans (jav hx)).trans (jav hx2)⟩
    have fin : ∀ (N' : Nfa),(∀ x,x ≠ kN n -> x ≠ endOf z (kN n + 1) -> SameS N N' x) -> Frag N' z (kN n + 1) /\ FreeOnly N' (kN n + 2 * sizeR z + 1) [] /\ ∀ x,x < kN n -> SameS n N' x:=fun N' hS=>
      ⟨jbK z _ (fun x h1 h2=>hS x (by omega) (by omega)) r1,(hS _ (by omega) (by simp only [endOf];omega)).only hb,fun x hx=>(hold x hx).trans (hS x (by omega) (by simp only [endOf];omega))⟩
    by_cases h4 : k = 4
    · subst h4
      simp only [if_true]
      obtain ⟨o1,o2,o3⟩:=opt (addFree N (endOf z (kN n + 1)) ((kN n + 1 : Nat) : Int)) [kN n + 1] (by rw [(jbC _ _ _).2];exact hlenF) ((jav (fun e=>hne e.symm)).only ha) (by simpa using jaV (t:=kN n + 1) (l:=[]) (by rw [hlenF];simp only [endOf];omega) r2) (fun x hx=>jav hx)
      obtain ⟨f1,f2,f3⟩:=fin _ o3
      exact ⟨⟨o1,f1,by simpa using o2,trivial⟩,f2,f3⟩
    · have h5 : k = 5:=by omega
      subst h5
      simp only [if_true,if_neg (show ¬ (5 : Int) = 4 by omega)]
      obtain ⟨o1,o2,o3⟩:=opt N [] hlenF ha r2 (fun x _=>SameS.refl)
      obtain ⟨f1,f2,f3⟩:=fin _ o3
      exact ⟨⟨o1,f1,by simpa using o2,trivial⟩,f2,f3⟩
theorem jid : ∀ (l : List Rx) (n : Nfa),OkM n -> shapesL l = true -> FragR (kidsN l n).1 l (kN n) /\ ∀ s,s < kN n -> SameS n (kidsN l n).1 s
  | [],n,_,_=>⟨trivial,fun _ _=>SameS.refl⟩
  | r :: l,n,hn,hs=>by
    simp only [shapesL,Bool.and_eq_true] at hs
    obtain ⟨h1,h2,h3⟩:=jiU r n hn hs.1
    have hk:=jcH r n
    obtain ⟨g1,g2⟩:=jid l (makeN r n).1 (OkM.makeN r n hn) hs.2
    have hp:=jaG r
    rw [hk] at g1 g2
    simp only [kidsN]
    exact ⟨⟨jbK r _ (fun s _ h=>g2 s (by simp only [endOf] at h;omega)) h1,(g2 _ (by simp only [endOf];omega)).only h2,g1⟩,fun s hs=>(h3 s hs).trans (g2 s (by omega))⟩
end
end Go.Proofs.W
end
section
namespace Go.Proofs.W
open Go Vm Go.Proofs.Zso
theorem jih (o : Nat) : ∀ (ps : List (Nat × Nat)) (n : Nfa) (last : Nat),(catW o n last ps).rule = n.rule
  | [],_,_=>rfl
  | p :: r,n,last=>by rw [catW,jih o r];rfl
theorem jiW (i o : Nat) : ∀ (ps : List (Nat × Nat)) (n : Nfa),(altW i o n ps).rule = n.rule
  | [],_=>rfl
  | p :: r,n=>by rw [altW,jiW i o r];rfl
theorem jqr (k s : Int) (i o : Nat) (ps : List (Nat × Nat)) (n : Nfa) : (wire k s i o ps n).rule = n.rule:=by
  unfold wire
  split
  · rfl
  split
  · rfl
  split
  · exact jih ..
  split
  · exact jiW ..
  split
  · rfl
  split
  · rfl
  split
  · rfl
  · rfl
mutual
theorem jhg : ∀ (r : Rx) (n : Nfa),(makeN r n).1.rule = n.rule ++ List.replicate (2 * sizeR r) (-1)
  | .mk k s l,n=>by
    have:=jhr l (addState n)
    simp only [makeN,jqr,addState,sizeR] at this ⊢
    rw [this,List.append_assoc,List.append_assoc]
    congr 1
    rw [show [(-1 : Int)] = List.replicate 1 (-1) from rfl,List.replicate_append_replicate,List.replicate_append_replicate]
    congr 1;omega
theorem jhr : ∀ (l : List Rx) (n : Nfa),(kidsN l n).1.rule = n.rule ++ List.replicate (2 * sizeL l) (-1)
  | [],n=>by simp [kidsN,sizeL]
  | r :: l,n=>by
    simp only [kidsN,jhr l,jhg r,sizeL,List.append_assoc]
    rw [List.replicate_append_replicate]
    congr 2;omega
end
def endsP : List Rx -> Nat -> List Nat
  | [],_=>[]
  | r :: l,a=>endOf r a :: endsP l (a + 2 * sizeR r)
theorem jaK : ∀ (l : List Rx) (a : Nat),(endsP l a).length = l.length
  | [],_=>rfl
  | r :: l,a=>by simp [endsP,jaK l]
theorem jfc (r : Rx) : ∀ (l : List Rx) (a : Nat),endsP (l ++ [r]) a = endsP l a ++ [endOf r (a + 2 * sizeL l)]
  | [],a=>by simp [endsP,sizeL]
  | x :: l,a=>by simp only [List.cons_append,endsP,jfc r l,sizeL];rw [show a + 2 * sizeR x + 2 * sizeL l = a + 2 * (sizeR x + sizeL l) by omega]
theorem jci : ∀ (l : List Rx) (a : Nat),∀ s ∈ endsP l a,a < s /\ s < a + 2 * sizeL l
  | [],a,s,h=>by cases h
  | r :: l,a,s,h=>by
    have hp:=jaG r
    simp only [endsP,List.mem_cons] at h
    simp only [sizeL]
    rcases h with rfl | h
    · simp only [endOf];omega
    · have:=jci l _ s h;omega
theorem jhy (r : Rx) : ∀ (l : List Rx) (a : Nat),starts (l ++ [r]) a = starts l a ++ [a + 2 * sizeL l]
  | [],a=>by simp [starts,sizeL]
  | x :: l,a=>by simp only [List.cons_append,starts,jhy r l,sizeL];rw [show a + 2 * sizeR x + 2 * sizeL l = a + 2 * (sizeR x + sizeL l) by omega]
theorem jjb {n : Nfa} (r : Rx) : ∀ (l : List Rx) (a : Nat),FragR n l a -> Frag n r (a + 2 * sizeL l) -> FreeOnly n (endOf r (a + 2 * sizeL l)) [] -> FragR n (l ++ [r]) a
  | [],a,_,h1,h2=>⟨by simpa [sizeL] using h1,by simpa [sizeL] using h2,trivial⟩
  | x :: l,a,h,h1,h2=>by
    simp only [sizeL] at h1 h2
    have e : a + 2 * (sizeR x + sizeL l) = a + 2 * sizeR x + 2 * sizeL l:=by omega
    rw [e] at h1 h2
    exact ⟨h.1,h.2.1,jjb r l _ h.2.2 h1 h2⟩
structure Pre (n : Nfa) (l : List Rx) : Prop where
  ok : OkM n
  k : kN n = 1 + 2 * sizeL l
  s0 : FreeOnly n 0 (starts l 1)
  fr : FragR n l 1
  ru : ∀ (s i : Nat),n.rule.getD s (-1) = (i : Int) ↔ (endsP l 1)[i]? = some s
theorem jr3 : Pre (addState emptyN) []:=by
  refine ⟨OkM.addState ⟨rfl,rfl,rfl,fun i x hx=>by simp [emptyN] at hx,fun i hi=>by simp [emptyN] at hi,fun i=>by simp [emptyN]⟩,rfl,⟨rfl,rfl⟩,trivial,fun s i=>?_⟩
  simp only [addState,emptyN,endsP,List.nil_append]
  cases s with
  | zero=>simp
  | succ s=>simp
theorem jty {n : Nfa} {l : List Rx} (h : Pre n l) (r : Rx) (hs : shapesR r = true) (hl : l.length < 16) : Pre (setRule (addFree (makeN r n).1 0 (makeN r n).2.1) (makeN r n).2.2 (l.length : Int)) (l ++ [r]):=by
  obtain ⟨m1,m2,m3⟩:=jiU r n h.ok hs
  have hk:=jcH r n
  have hru:=jhg r n
  have hok:=OkM.makeN r n h.ok
  have hp:=jaG r
  have hsz:=jdx [r] l
  simp only [sizeL,Nat.add_zero] at hsz
  rw [jdm]
  simp only
  have hsame : ∀ s,s ≠ 0 -> SameS (makeN r n).1 (setRule (addFree (makeN r n).1 0 ((kN n : Nat) : Int)) (endOf r (kN n)) (l.length : Int)) s:=fun s hs=>(jav hs).trans ⟨rfl,rfl,rfl⟩
  have hk0 : kN n = 1 + 2 * sizeL l:=h.k
  refine ⟨(hok.addFree 0 _ ⟨by omega,by omega⟩).setRule _ _ ⟨by omega,by omega⟩,?_,?_,?_,fun s i=>?_⟩
  · show kN (makeN r n).1 = _
    rw [hk,hsz,hk0];omega
  · have:=jaV (t:=kN n) (by rw [hok.lF];omega) ((m3 0 (by omega)).only h.s0)
    rw [jhy,<- hk0]
    exact ⟨this.1,this.2⟩
  · refine jjb r l 1 (jcr l 1 (fun s h1 h2=>(m3 s (by omega)).trans (hsame s (by omega))) h.fr) ?_ ?_
    · rw [<- hk0];exact jbK r _ (fun s h1 h2=>hsame s (by omega)) m1
    · rw [<- hk0];exact (hsame _ (by simp only [endOf];omega)).only m2
  · have hend : endOf r (kN n) = (endsP (l ++ [r]) 1).getD l.length 0:=by
      rw [jfc,List.getD_eq_getElem?_getD,List.getElem?_append_right (by rw [jaK];omega),jaK,<- hk0];simp
    simp only [setRule,addFree,hru,jaR]
    have hlenR : (n.rule ++ List.replicate (2 * sizeR r) (-1)).length = kN n + 2 * sizeR r:=by simp [h.ok.lR]
    rw [hlenR]
    have hold : (n.rule ++ List.replicate (2 * sizeR r) (-1)).getD s (-1) = n.rule.getD s (-1):=by
      simp only [List.getD_eq_getElem?_getD]
      rcases Nat.lt_or_ge s n.rule.length with h' | h'
      · rw [List.getElem?_append_left h']
      · rw [List.getElem?_append_right h',List.getElem?_eq_none h',List.getElem?_replicate]
        split <;> rfl
    rw [hold,jfc,<- hk0]
    by_cases hs : endOf r (kN n) = s
    · rw [if_pos ⟨hs,by show kN n + 2 * sizeR r - 1 < _;omega⟩]
      constructor
      · intro e
        have : l.length = i:=by omega
        subst this
        rw [List.getElem?_append_right (by rw [jaK];omega),jaK,hs];simp
      · intro e
        rcases Nat.lt_or_ge i l.length with h' | h'
        · rw [List.getElem?_append_left (by rw [jaK];omega)] at e
          have:=jci l 1 s (List.mem_of_getElem? e)
          simp only [endOf] at hs;omega
        · rw [List.getElem?_append_right (by rw [jaK];omega),jaK] at e
          cases hx : i - l.length with
          | zero=>omega
          | succ m=>rw [hx] at e;simp at e
    · rw [if_neg (fun e=>hs e.1),h.ru]
      rcases Nat.lt_or_ge i l.length with h' | h'
      · rw [List.getElem?_append_left (by rw [jaK];omega)]
      · rw [List.getElem?_append_right (by rw [jaK];omega),jaK,List.getElem?_eq_none (by rw [jaK];omega)]
        cases hx : i - l.length with
        | zero=>simpa using hs
        | succ m=>simp
theorem jiC : ∀ (l done : List Rx) (n n' : Nfa),Pre n done -> done.length + l.length <= 16 -> buildFrom done.length l n = some n' -> Pre n' (done ++ l) /\ ∀ r ∈ l,rightR r = true
  | [],done,n,n',h,_,hb=>by
    have : n = n':=by simpa [buildFrom] using hb
    subst this
    exact ⟨by simpa using h,by simp⟩
  | r :: l,done,n,n',h,hl,hb=>by
    rw [buildFrom] at hb
    split at hb
    · rename_i hr
      have hsh:=(sizes (l:=[r]) (by simpa using hr) r (by simp)).2
      simp only [List.length_cons] at hl
      have:=jty h r hsh (by omega)
      have e : done.length + 1 = (done ++ [r]).length:=by simp
      rw [e] at hb
      obtain ⟨g1,g2⟩:=jiC l (done ++ [r]) _ n' this (by simp;omega) hb
      refine ⟨by simpa using g1,fun x hx=>?_⟩
      rcases List.mem_cons.1 hx with rfl | hx
      · exact hr
      · exact g2 x hx
    · cases hb
theorem joz {l : List Rx} {n : Nfa} (h : buildN l = some n) : Pre n l /\ ∀ r ∈ l,rightR r = true:=by
  unfold buildN at h
  split at h
  · rename_i hl
    exact jiC l [] _ n jr3 (by simpa using hl.2) h
  · cases h
end Go.Proofs.W
end
section
namespace Go.Proofs.W
open Go Vm Go.Proofs.Zso
theorem jtz {n : Nfa} {l : List Int} {s t : Nat} (hs : (s : Int) ∈ clos n l) (ht : (t : Int) ∈ n.free.getD s []) (hk : t < n.set.length) : (t : Int) ∈ clos n l:=by
  obtain ⟨i,h1,h2,h3⟩:=mem_listZ.1 hs
  obtain rfl : s = i:=by omega
  exact mem_listZ.2 ⟨t,hk,clo_iff.2 (.step (clo_iff.1 h2) ht),rfl⟩
theorem jmC {n : Nfa} (hok : OkM n) (h1 : 1 <= kN n) (w : List Int) : ∀ x y,Path n w x y -> x = (0,0) -> y.1 < kN n /\ y.2 <= w.length /\ ((y.1 : Nat) : Int) ∈ atN n (w.take y.2):=by
  intro x y h
  induction h with
  | refl=>
    rintro rfl
    refine ⟨h1,Nat.zero_le _,?_⟩
    exact mem_listZ.2 ⟨0,h1,clo_iff.2 (.base ⟨h1,by simp⟩),rfl⟩
  | step _ g ih=>
    intro e
    obtain ⟨i1,i2,i3⟩:=ih e
    cases g with
    | @eps s t p ht=>
      have:=hok.fr s t ht
      have htk : t < kN n:=by omega
      obtain ⟨l,hl⟩:=jkj n (w.take p)
      simp only at i1 i2 i3 ⊢
      rw [hl] at i3 ⊢
      exact ⟨htk,i2,jtz i3 ht htk⟩
    | @sym s t p c hc hh hto=>
      simp only at i1 i2 i3 ⊢
      have hp : p < w.length:=by
        rcases Nat.lt_or_ge p w.length with h | h
        · exact h
        · rw [List.getElem?_eq_none h] at hc;cases hc
      have hset : n.set.getD s 0 ≠ 0:=fun e=>by rw [jlb e] at hh;cases hh
      have hst:=hok.st s hset
      have htk : t < kN n:=by omega
      refine ⟨htk,by omega,?_⟩
      rw [jkd hp]
      have hcw : w[p] = c:=by rw [List.getElem?_eq_getElem hp] at hc;exact Option.some.inj hc
      rw [hcw]
      refine mem_listZ.2 ⟨t,htk,clo_iff.2 (.base ⟨htk,mem_listZ.2 ⟨t,htk,?_,rfl⟩⟩),rfl⟩
      simp only [stepTo,List.any_eq_true,List.mem_range,Bool.and_eq_true,decide_eq_true_eq]
      exact ⟨s,i1,⟨i3,hh⟩,hto⟩
theorem jhR {n : Nfa} (w : List Int) : ∀ (j s : Nat),j <= w.length -> (s : Int) ∈ atN n (w.take j) -> Path n w (0,0) (s,j)
  | 0,s,_,h=>by
    obtain ⟨i,h1,h2,h3⟩:=mem_listZ.1 h
    obtain rfl : s = i:=by omega
    have hr:=clo_iff.1 h2
    clear h h1 h2 h3
    induction hr with
    | @base s' hb=>
      have e : s' = 0:=by simpa [inS] using hb.2
      subst e;exact .refl
    | step _ ht ih=>exact .step ih (.eps ht)
  | j + 1,s,hj,h=>by
    have hjw : j < w.length:=by omega
    rw [jkd hjw] at h
    obtain ⟨i,h1,h2,h3⟩:=mem_listZ.1 h
    obtain rfl : s = i:=by omega
    have hr:=clo_iff.1 h2
    clear h h1 h2 h3
    induction hr with
    | base hb=>
      obtain ⟨t,g1,g2,g3⟩:=mem_listZ.1 hb.2
      simp only [stepTo,List.any_eq_true,List.mem_range,Bool.and_eq_true,decide_eq_true_eq] at g2
      obtain ⟨x,k1,⟨k2,k3⟩,k4⟩:=g2
      rw [<- g3] at k4
      exact .step (jhR w j x (by omega) k2) (.sym (List.getElem?_eq_getElem hjw) k3 k4)
    | step _ ht ih=>exact .step ih (.eps ht)
theorem jer {n : Nfa} {w : List Int} : ∀ (l : List Rx) (a : Nat) (fl : List Bool) (x p : Nat) (y : Nat × Nat),FragR n l a -> shapesL l = true -> fl.length = w.length + 1 -> GoodL w 3 l a fl x p -> Go1 n w (x,p) y -> GoodL w 3 l a fl y.1 y.2
  | [],a,fl,x,p,y,_,_,_,hg,_=>by simp [GoodL] at hg
  | r :: l,a,fl,x,p,y,hf,hs,hfl,hg,g=>by
    obtain ⟨h1,h2,h3⟩:=hf
    simp only [shapesL,Bool.and_eq_true] at hs
    simp only [GoodL,if_neg (show ¬ (3 : Int) = 2 by omega)] at hg ⊢
    rcases hg with hg | hg
    · by_cases hx : x = endOf r a
      · subst hx
        obtain ⟨t,ht,rfl⟩:=jbJ h2 g
        cases ht
      · exact .inl (jiH n w r a fl x p y h1 hs.1 hfl hg hx g)
    · exact .inr (jer l _ fl x p y h3 hs.2 hfl hg g)
theorem jeW {w : List Int} : ∀ (l : List Rx) (a : Nat) (fl : List Bool) (s p i : Nat),(endsP l a)[i]? = some s -> GoodL w 3 l a fl s p -> ∃ r,l[i]? = some r /\ at' (endsR w r fl) p
  | [],a,fl,s,p,i,h,_=>by simp [endsP] at h
  | r :: l,a,fl,s,p,i,h,hg=>by
    have hp:=jaG r
    simp only [GoodL,if_neg (show ¬ (3 : Int) = 2 by omega)] at hg
    simp only [endsP] at h
    cases i with
    | zero=>
      have hs : endOf r a = s:=by simpa using h
      rcases hg with hg | hg
      · rw [<- hs] at hg
        exact ⟨r,rfl,jlf w r a hg⟩
      · have:=jds w 3 l _ fl s p hg
        simp only [endOf] at hs;omega
    | succ i=>
      have h' : (endsP l (a + 2 * sizeR r))[i]? = some s:=by simpa using h
      rcases hg with hg | hg
      · have h3:=jci l _ s (List.mem_of_getElem? h')
        have h4:=jku w r a fl s p hg
        simp only [endOf] at h4;omega
      · obtain ⟨r',k1,k2⟩:=jeW l _ fl s p i h' hg
        exact ⟨r',by simpa using k1,k2⟩
theorem jhQ {n : Nfa} : ∀ (l : List Rx) (a : Nat) (i : Nat) (r : Rx),FragR n l a -> l[i]? = some r -> ∃ x,x ∈ starts l a /\ Frag n r x /\ (endsP l a)[i]? = some (endOf r x)
  | [],a,i,r,_,h=>by simp at h
  | z :: l,a,i,r,hf,h=>by
    obtain ⟨h1,h2,h3⟩:=hf
    cases i with
    | zero=>
      have : z = r:=by simpa using h
      subst this
      exact ⟨a,by simp [starts],h1,by simp [endsP]⟩
    | succ i=>
      obtain ⟨x,g1,g2,g3⟩:=jhQ l _ i r h3 (by simpa using h)
      exact ⟨x,by simp [starts,g1],g2,by simpa [endsP] using g3⟩
theorem has_at {w : List Int} {r : Rx} : hasR w r = true ↔ at' (endsR w r (startB w.length)) w.length:=Iff.rfl
theorem start_at {m p : Nat} : at' (startB m) p ↔ p = 0:=by
  unfold at' startB
  cases p with
  | zero=>simp
  | succ p=>
    simp only [List.getD_eq_getElem?_getD,List.getElem?_cons_succ,List.getElem?_replicate]
    split <;> simp
theorem leads {n : Nfa} {l : List Rx} (h : Pre n l) (hr : ∀ r ∈ l,rightR r = true) (w : List Int) {i s : Nat} {r : Rx} (hi : l[i]? = some r) (hs : (endsP l 1)[i]? = some s) : (s : Int) ∈ atN n w ↔ hasR w r = true:=by
  have hsl : shapesL l = true:=by rw [jc3,List.all_eq_true];exact fun x hx=>(sizes hr x hx).2
  have hw : w.take w.length = w:=List.take_length
  constructor
  · intro hm
    rw [<- hw] at hm
    have hp:=jhR (n:=n) w w.length s (Nat.le_refl _) hm
    have key : ∀ x y,Path n w x y -> x = (0,0) -> y = (0,0) ∨ GoodL w 3 l 1 (startB w.length) y.1 y.2:=by
      intro x y hp
      induction hp with
      | refl=>exact fun e=>.inl e
      | step _ g ih=>
        intro e
        rcases ih e with rfl | hg
        · obtain ⟨t,ht,rfl⟩:=jbJ h.s0 g
          exact .inr (jcO w 3 (by omega) l 1 ht (start_at.2 rfl))
        · exact .inr (jer l 1 _ _ _ _ h.fr hsl (jcl _) hg g)
    rcases key _ _ hp rfl with e | hg
    · have:=jci l 1 s (List.mem_of_getElem? hs)
      have : s = 0:=congrArg Prod.fst e
      omega
    · obtain ⟨r',k1,k2⟩:=jeW l 1 _ s w.length i hs hg
      rw [hi] at k1;cases k1
      exact has_at.2 k2
  · intro hh
    obtain ⟨x,g1,g2,g3⟩:=jhQ l 1 i r h.fr hi
    rw [hs] at g3
    cases g3
    obtain ⟨i0,k1,k2⟩:=sound n w r x _ _ g2 (sizes hr r (List.mem_of_getElem? hi)).2 (jcl _) (has_at.1 hh)
    rw [start_at] at k1
    subst k1
    have hp : Path n w (0,0) (endOf r x,w.length):=(Path.one (jbh h.s0 g1)).trans k2
    have:=jmC h.ok (by rw [h.k];omega) w _ _ hp rfl
    have h3:=this.2.2
    simp only [hw] at h3
    exact h3
def firstZ (w : List Int) : List Rx -> Nat -> Int
  | [],_=>-1
  | r :: l,i=>if hasR w r then (i : Int) else firstZ w l (i + 1)
theorem jfT (w : List Int) : ∀ (l : List Rx) (i0 : Nat),(firstZ w l i0 = -1 /\ ∀ r ∈ l,hasR w r = false) ∨ ∃ i r,l[i]? = some r /\ hasR w r = true /\ firstZ w l i0 = ((i0 + i : Nat) : Int) /\ ∀ i' r',i' < i -> l[i']? = some r' -> hasR w r' = false
  | [],i0=>.inl ⟨rfl,by simp⟩
  | r :: l,i0=>by
    simp only [firstZ]
    cases hh : hasR w r with
    | true=>exact .inr ⟨0,r,rfl,hh,by simp,fun i' r' h=>by omega⟩
    | false=>
      simp only [Bool.false_eq_true,if_false]
      rcases jfT w l (i0 + 1) with ⟨h1,h2⟩ | ⟨i,r',h1,h2,h3,h4⟩
      · refine .inl ⟨h1,fun x hx=>?_⟩
        rcases List.mem_cons.1 hx with rfl | hx
        · exact hh
        · exact h2 x hx
      · refine .inr ⟨i + 1,r',by simpa using h1,h2,by rw [h3];congr 1;omega,fun i' x hi' hx=>?_⟩
        cases i' with
        | zero => have : r = x := by simpa using hx
                  subst this;exact hh
        | succ i'=>exact h4 i' x (by omega) (by simpa using hx)
theorem jlC {n : Nfa} {l : List Rx} (h : Pre n l) (hr : ∀ r ∈ l,rightR r = true) (hn : rightN n = true) (w : List Int) : matchN n w = firstZ w l 0:=by
  unfold matchN
  rw [if_pos hn]
  have hlR : n.rule.length = n.set.length:=h.ok.lR
  have hmem : ∀ x,x ∈ (atN n w).map (fun s=>n.rule.getD s.toNat 0) -> 0 <= x -> ∃ (i : Nat) (r : Rx),l[i]? = some r /\ x = (i : Int) /\ hasR w r = true:=by
    intro x hx h0
    obtain ⟨s,hs,rfl⟩:=List.mem_map.1 hx
    obtain ⟨L,hL⟩:=jkj n w
    have hs':=hs
    rw [hL] at hs'
    have hrng:=jdU hs'
    have e : n.rule.getD s.toNat 0 = n.rule.getD s.toNat (-1):=jgR (by omega)
    rw [e] at h0 ⊢
    obtain ⟨i,hi⟩ : ∃ i : Nat,n.rule.getD s.toNat (-1) = (i : Int):=⟨(n.rule.getD s.toNat (-1)).toNat,by omega⟩
    have he:=(h.ru _ _).1 hi
    have hil : i < l.length:=by
      rcases Nat.lt_or_ge i l.length with h' | h'
      · exact h'
      · rw [List.getElem?_eq_none (by rw [jaK];omega)] at he;cases he
    refine ⟨i,l[i],List.getElem?_eq_getElem hil,hi,(leads h hr w (List.getElem?_eq_getElem hil) he).1 ?_⟩
    rw [show ((s.toNat : Nat) : Int) = s by omega];exact hs
  have hin : ∀ (i : Nat) (r : Rx),l[i]? = some r -> hasR w r = true -> (i : Int) ∈ (atN n w).map (fun s=>n.rule.getD s.toNat 0):=by
    intro i r hi hh
    have hil : i < l.length:=by
      rcases Nat.lt_or_ge i l.length with h' | h'
      · exact h'
      · rw [List.getElem?_eq_none h'] at hi;cases hi
    obtain ⟨s,hs⟩ : ∃ s,(endsP l 1)[i]? = some s:=⟨_,List.getElem?_eq_getElem (by rw [jaK];exact hil)⟩
    have hm:=(leads h hr w hi hs).2 hh
    refine List.mem_map.2 ⟨(s : Int),hm,?_⟩
    have hru:=(h.ru s i).2 hs
    have hsl:=jci l 1 s (List.mem_of_getElem? hs)
    have hk:=h.k
    simp only [kN] at hk
    rw [Int.toNat_natCast,jgR (e:=(-1 : Int)) (by omega)];exact hru
  refine juV ?_
  rcases jfT w l 0 with ⟨h1,h2⟩ | ⟨i,r,h1,h2,h3,h4⟩
  · rw [h1]
    refine .inl ⟨rfl,fun x hx=>?_⟩
    by_cases h0 : 0 <= x
    · obtain ⟨i,r,g1,g2,g3⟩:=hmem x hx h0
      rw [h2 r (List.mem_of_getElem? g1)] at g3;cases g3
    · omega
  · rw [h3,Nat.zero_add]
    refine .inr ⟨by omega,hin i r h1 h2,fun x hx h0=>?_⟩
    obtain ⟨i',r',g1,g2,g3⟩:=hmem x hx h0
    rw [g2]
    rcases Nat.lt_or_ge i' i with h' | h'
    · rw [h4 i' r' h' g1] at g3;cases g3
    · omega
end Go.Proofs.W
end
section
namespace Go.Proofs.W
open Go Vm Go.Proofs.Zso
structure Dfa where
  next : List (List Int)
  rule : List Int
def rowD (r : List Int) : D:=.agg (r.map (.int .i64))
def rowsD (l : List (List Int)) : D:=.sl false (l.map rowD)
def dfaD (d : Dfa) : D:=.agg [rowsD d.next,isD d.rule]
def tyM (d : Dfa) : Prop:=∀ r ∈ d.next,r.length = 16
theorem jcT (r : List Int) : strip (rowD r) = some (rowD r):=by simp [rowD,strip,jaM]
theorem jcy (l : List (List Int)) : stripL (l.map rowD) = some (l.map rowD):=by
  induction l with
  | nil=>rfl
  | cons q r ih=>simp [stripL,ih,jcT]
theorem jgg (l : List (List Int)) : strip (rowsD l) = some (rowsD l):=by simp [rowsD,strip,jcy]
theorem jcS (d : Dfa) : strip (dfaD d) = some (dfaD d):=by simp [dfaD,strip,stripL,jgg,jaJ]
theorem jaS (d : Dfa) : noTup (dfaD d) = true:=rfl
theorem jaT (d : Dfa) : (dfaD d).cells = [.sl false (d.next.map rowD),.sl false (d.rule.map (.int .i64))]:=rfl
theorem ja5 (d : Dfa) : aggQ (dfaD d) = true:=rfl
theorem jbv (r : List Int) : noTup (rowD r) = true:=rfl
theorem jbl (r : List Int) : (rowD r).cells = r.map (.int .i64):=rfl
theorem jbN (r : List Int) : aggQ (rowD r) = true:=rfl
def toOk (n : Nat) (t : Int) : Bool:=decide (-1 <= t) && decide (t < n)
def rowOkD (d : Dfa) (i : Nat) : Bool:=decide (-1 <= d.rule.getD i 0) && decide (d.rule.getD i 0 < 16) && (d.next.getD i []).all (toOk d.next.length)
def rightD (d : Dfa) : Bool:=decide (1 <= d.next.length /\ d.next.length <= 200 /\ d.rule.length = d.next.length) && allN (rowOkD d) 0 d.next.length
theorem jbV {d : Dfa} {i : Nat} (h : i < d.next.length) : (d.next.map rowD)[i]? = some (rowD d.next[i]):=by simp [h]
theorem jqf {d : Dfa} {i : Nat} (h : i < d.next.length) (h2 : i < d.rule.length) : rowOkD d i = (decide (-1 <= d.rule[i]) && decide (d.rule[i] < 16) && (d.next[i].drop 0).all (toOk d.next.length)):=by
  simp [rowOkD,List.getD,h,h2]
theorem jdz (d : Dfa) (ht : tyM d) (hs : d.next.length <= 1000000) (hs2 : d.rule.length <= 9223372036854775807) : PureF Tryz.prog A 36 [dfaD d] (.bool (rightD d)):=by
  have a1:=jaS d
  have a2:=jaT d
  have a3:=ja5 d
  refine jaj (n:=59) (rs:=[.tmp 2]) Tryz.func36 rfl rfl rfl rfl rfl rfl ?_
  by_cases c : 1 <= d.next.length /\ d.next.length <= 200 /\ d.rule.length = d.next.length
  case neg=>
    have hz : rightD d = false:=by simp only [rightD,c,decide_false,Bool.false_and]
    rw [hz]
    repeat' (first | apply wz1|apply wz2|apply wz3|apply wz4|apply wz5|apply wz6 | simp -dsimp (maxSteps:=999999) (disch:=omega) only[go_sem,simprocAttr, *] | ((first | refine wz8 ?_ ?_|refine wz9 ?_ ?_|refine wz7 ?_ ?_)<;>intro hh <;> (try replace hh:=vqs hh) <;> (try (exfalso;first | exact hh | omega))))
  have hz : rightD d = allN (rowOkD d) 0 d.next.length:=by simp only [rightD,c,and_self,decide_true,Bool.true_and]
  rw [hz]
  generalize hG : allN (rowOkD d) 0 d.next.length = G
  clear hz
  obtain ⟨c1,c2,c3⟩:=c
  replace hG : Hid (allN (rowOkD d) 0 d.next.length = G):=hG
  repeat' (first | apply wz1|apply wz2|apply wz3|apply wz4|apply wz5|apply wz6 | simp -dsimp (maxSteps:=999999) (disch:=omega) only[go_sem,simprocAttr, *] | ((first | refine wz8 ?_ ?_|refine wz9 ?_ ?_|refine wz7 ?_ ?_)<;>intro hh <;> (try replace hh:=vqs hh) <;> (try (exfalso;first | exact hh | omega))))
  have c4 : d.rule.length <= d.next.length:=by omega
  replace c3 : d.next.length <= d.rule.length:=by omega
  refine jae (fun e H=>∃ j m : Nat,j + m = d.next.length /\ hget H 0 = .arr [dfaD d] /\ 1 <= H.length /\ e 1 = .ptr 0 0 0 /\ e 3 = .int .i64 d.next.length /\ e 25 = .sl false (d.next.map rowD) /\ e 26 = .int .i64 d.next.length /\ e 27 = .int .i64 j /\ G = allN (rowOkD d) j m) (fun e H=>d.next.length - natOf (e 27)) ?_ ?_
  · exact ⟨0,d.next.length,by omega,rfl,by simp,gs,gs,gs,gs,gs,Eq.symm hG⟩
  clear hG
  rintro e H ⟨j,m,hj,h0,hl,e1,e3,e25,e26,e27,ha⟩ R hR
  by_cases hb : j < d.next.length
  case neg=>
    obtain rfl : m = 0:=by omega
    have : G = true:=ha
    subst this
    clear hj ha
    repeat' (first | apply wz1|apply wz2|apply wz3|apply wz4|apply wz5|apply wz6 | simp -dsimp (maxSteps:=999999) (disch:=omega) only[go_sem,simprocAttr, *] | ((first | refine wz8 ?_ ?_|refine wz9 ?_ ?_|refine wz7 ?_ ?_)<;>intro hh <;> (try replace hh:=vqs hh) <;> (try (exfalso;first | exact hh | omega))))
  obtain ⟨m,rfl⟩ : ∃ x,m = x + 1:=⟨m - 1,by omega⟩
  have hjr : j < d.rule.length:=by omega
  have hrow:=jbV hb
  have hlen:=ht _ (List.getElem_mem hb)
  rw [allN,jqf hb hjr] at ha
  generalize d.next[j] = row at hrow hlen ha
  generalize hru : d.rule[j] = ru at ha
  replace ha : Hid (G = ((decide (-1 <= ru) && decide (ru < 16) && (row.drop 0).all (toOk d.next.length)) && allN (rowOkD d) (j + 1) m)):=ha
  have b1:=jbv row
  have b2:=jbl row
  have b3:=jbN row
  repeat' (first | apply wz1|apply wz2|apply wz3|apply wz4|apply wz5|apply wz6 | simp -dsimp (maxSteps:=999999) (disch:=omega) only[go_sem,simprocAttr, *] | ((first | refine wz8 ?_ ?_|refine wz9 ?_ ?_|refine wz7 ?_ ?_)<;>intro hh <;> (try replace hh:=vqs hh) <;> (try (exfalso;first | exact hh | omega))))
  · have : G = false:=by rw [show G = _ from ha];simp;omega
    rw [this]
  rotate_left
  · have : G = false:=by rw [show G = _ from ha];simp;omega
    rw [this]
  have ha2 : Hid (G = ((row.drop 0).all (toOk d.next.length) && allN (rowOkD d) (j + 1) m)):=by
    show G = _
    rw [show G = _ from ha]
    simp [*]
  clear ha
  refine jae (fun e H=>∃ i : Nat,i <= 16 /\ hget H 0 = .arr [dfaD d] /\ 1 <= H.length /\ e 1 = .ptr 0 0 0 /\ e 3 = .int .i64 d.next.length /\ e 25 = .sl false (d.next.map rowD) /\ e 26 = .int .i64 d.next.length /\ e 27 = .int .i64 j /\ e 46 = rowD row /\ e 47 = .int .i64 i /\ G = ((row.drop i).all (toOk d.next.length) && allN (rowOkD d) (j + 1) m)) (fun e H=>16 - natOf (e 47)) ?_ ?_
  · exact ⟨0,by omega,gs,by simp,gs,gs,gs,gs,gs,gs,gs,ha2⟩
  have k27:=e27
  clear ha2 e1 e3 e25 e26 e27 h0
  rintro e2 H2 ⟨i,hi,h0,hl2,e1,e3,e25,e26,e27,e46,e47,ha⟩ R2 hR2
  by_cases hb2 : i < 16
  case neg=>
    rw [List.drop_eq_nil_of_le (by omega)] at ha
    repeat' (first | apply wz1|apply wz2|apply wz3|apply wz4|apply wz5|apply wz6 | simp -dsimp (maxSteps:=999999) (disch:=omega) only[go_sem,simprocAttr, *] | ((first | refine wz8 ?_ ?_|refine wz9 ?_ ?_|refine wz7 ?_ ?_)<;>intro hh <;> (try replace hh:=vqs hh) <;> (try (exfalso;first | exact hh | omega))))
    refine hR _ _ ⟨j + 1,m,by omega,gs,by omega,gs,gs,gs,gs,gs,by simpa using ha⟩ ?_
    simp -dsimp (maxSteps:=999999) (disch:=omega) only[go_sem,simprocAttr, *,jab]
  have hil : i < row.length:=by omega
  rw [jeV hil] at ha
  have hcell : (row.map (D.int .i64))[i * 1]? = some (.int .i64 row[i]):=by simp [hil]
  generalize row[i] = t at ha hcell
  replace ha : Hid (G = ((toOk d.next.length t && (row.drop (i + 1)).all (toOk d.next.length)) && allN (rowOkD d) (j + 1) m)):=ha
  repeat' (first | apply wz1|apply wz2|apply wz3|apply wz4|apply wz5|apply wz6 | simp -dsimp (maxSteps:=999999) (disch:=omega) only[go_sem,simprocAttr, *,rowD] | ((first | refine wz8 (fun hh=>?_) (fun hh=>?_) | refine wz9 (fun hh=>?_) (fun hh=>?_) | refine jak (by simp -dsimp (maxSteps:=999999) (disch:=omega) only[go_sem,simprocAttr, *,rowD];exact rfl) (fun hh=>?_) (fun hh=>?_)) <;> (try replace hh:=vqs hh) <;> (try (exfalso;first | exact hh | omega))))
  · have : G = false:=by rw [show G = _ from ha];simp [toOk];omega
    rw [this]
  · refine hR2 _ _ ⟨i + 1,by omega,gs,by omega,gs,gs,gs,gs,gs,gs,gs,?_⟩ ?_
    · rw [show G = _ from ha]
      have : toOk d.next.length t = true:=by simp [toOk];omega
      rw [this];rfl
    · simp -dsimp (maxSteps:=999999) (disch:=omega) only[go_sem,simprocAttr, *,jab]
  · have : G = false:=by rw [show G = _ from ha];simp [toOk];omega
    rw [this]
def nextD (d : Dfa) (at_ c : Int) : Int:=if c < 0 ∨ 16 <= c then -1 else (d.next.getD at_.toNat []).getD c.toNat 0
theorem jt2 (d : Dfa) (a c : Int) (ht : tyM d) (h0 : 0 <= a) (h1 : a < d.next.length) (hs : d.next.length <= 1000000) : PureF Tryz.prog A 53 [dfaD d,.int .i64 a,.int .i64 c] (.int .i64 (nextD d a c)):=by
  have a1:=jaS d
  have a2:=jaT d
  have a3:=ja5 d
  refine jaj (n:=20) (rs:=[.tmp 6]) Tryz.func53 rfl rfl rfl rfl rfl rfl ?_
  by_cases hc : c < 0 ∨ 16 <= c
  · have hz : nextD d a c = -1:=by simp [nextD,hc]
    rw [hz]
    rcases hc with hc | hc
    · repeat' (first | apply wz1|apply wz2|apply wz3|apply wz4|apply wz5|apply wz6 | simp -dsimp (maxSteps:=999999) (disch:=omega) only[go_sem,simprocAttr, *] | ((first | refine wz8 ?_ ?_|refine wz9 ?_ ?_|refine wz7 ?_ ?_)<;>intro hh <;> (try replace hh:=vqs hh) <;> (try (exfalso;first | exact hh | omega))))
    · repeat' (first | apply wz1|apply wz2|apply wz3|apply wz4|apply wz5|apply wz6 | simp -dsimp (maxSteps:=999999) (disch:=omega) only[go_sem,simprocAttr, *] | ((first | refine wz8 ?_ ?_|refine wz9 ?_ ?_|refine wz7 ?_ ?_)<;>intro hh <;> (try replace hh:=vqs hh) <;> (try (exfalso;first | exact hh | omega))))
  · have hb : a.toNat < d.next.length:=by omega
    have hrow:=jbV hb
    have hlen:=ht _ (List.getElem_mem hb)
    have hz : nextD d a c = d.next[a.toNat].getD c.toNat 0:=by unfold nextD;rw [if_neg hc];simp [List.getD,hb]
    rw [hz]
    generalize d.next[a.toNat] = row at hrow hlen
    have hil : c.toNat < row.length:=by omega
    have hcell : (row.map (D.int .i64))[c.toNat * 1]? = some (.int .i64 row[c.toNat]):=by simp [hil]
    have hg : row.getD c.toNat 0 = row[c.toNat]:=by simp [List.getD,hil]
    rw [hg]
    generalize row[c.toNat] = t at hcell
    clear hz hg
    have hc1 : 0 <= c:=by omega
    have hc2 : c < 16:=by omega
    clear hc
    have b1:=jbv row
    have b2:=jbl row
    have b3:=jbN row
    repeat' (first | apply wz1|apply wz2|apply wz3|apply wz4|apply wz5|apply wz6 | simp -dsimp (maxSteps:=999999) (disch:=omega) only[go_sem,simprocAttr, *,rowD] | ((first | refine wz8 (fun hh=>?_) (fun hh=>?_) | refine wz9 (fun hh=>?_) (fun hh=>?_) | refine jak (by simp -dsimp (maxSteps:=999999) (disch:=omega) only[go_sem,simprocAttr, *,rowD];exact rfl) (fun hh=>?_) (fun hh=>?_)) <;> (try replace hh:=vqs hh) <;> (try (exfalso;first | exact hh | omega))))
def runD (d : Dfa) : Int -> List Int -> Int
  | a,[]=>a
  | a,c :: w=>if nextD d a c < 0 then -1 else runD d (nextD d a c) w
theorem jb9 {d : Dfa} (hr : rightD d = true) {i : Nat} (h : i < d.next.length) : -1 <= d.rule.getD i 0 /\ d.rule.getD i 0 < 16 /\ ∀ t ∈ d.next.getD i [],-1 <= t /\ t < d.next.length:=by
  unfold rightD at hr
  simp only [Bool.and_eq_true] at hr
  have:=allN_iff.1 hr.2 i (by omega) (by omega)
  unfold rowOkD at this
  simp only [Bool.and_eq_true,decide_eq_true_eq,List.all_eq_true] at this
  refine ⟨this.1.1,this.1.2,fun t ht=>?_⟩
  have:=this.2 t ht
  unfold toOk at this
  simp only [Bool.and_eq_true,decide_eq_true_eq] at this
  exact this
theorem jaA {d : Dfa} (hr : rightD d = true) : 1 <= d.next.length /\ d.next.length <= 200 /\ d.next.length <= d.rule.length /\ d.rule.length <= d.next.length:=by
  unfold rightD at hr
  simp only [Bool.and_eq_true,decide_eq_true_eq] at hr
  omega
theorem jmO {d : Dfa} (hr : rightD d = true) (ht : tyM d) {a c : Int} (h0 : 0 <= a) (h1 : a < d.next.length) : -1 <= nextD d a c /\ nextD d a c < d.next.length:=by
  have hl:=jaA hr
  unfold nextD
  split
  · omega
  · have hb : a.toNat < d.next.length:=by omega
    obtain ⟨_,_,h⟩:=jb9 hr hb
    have hlen:=ht _ (List.getElem_mem hb)
    have e : d.next.getD a.toNat [] = d.next[a.toNat]:=by simp [List.getD,hb]
    rw [e] at h ⊢
    have hil : c.toNat < d.next[a.toNat].length:=by omega
    have e2 : d.next[a.toNat].getD c.toNat 0 = d.next[a.toNat][c.toNat]:=by simp [List.getD,hil]
    rw [e2]
    exact h _ (List.getElem_mem hil)
theorem jm3 {d : Dfa} (hr : rightD d = true) (ht : tyM d) : ∀ {w : List Int} {a : Int},0 <= a -> a < d.next.length -> -1 <= runD d a w /\ runD d a w < d.next.length
  | [],a,h0,h1=>by simp only [runD];omega
  | c :: w,a,h0,h1=>by
    have:=jmO hr ht (c:=c) h0 h1
    simp only [runD]
    split
    · omega
    · exact jm3 hr ht (by omega) this.2
theorem jdq (d : Dfa) : stripL [dfaD d] = some [dfaD d]:=jaH (jcS d)
theorem jsL (d : Dfa) (a c : Int) : stripL [dfaD d,.int .i64 a,.int .i64 c] = some [dfaD d,.int .i64 a,.int .i64 c]:=jps (jcS d) rfl rfl
theorem jtB (d : Dfa) (w : List Int) (c : Int) : stripL [dfaD d,isD w,.int .i64 c] = some [dfaD d,isD w,.int .i64 c]:=jps (jcS d) (jaJ w) rfl
end Go.Proofs.W
end
section
namespace Go.Proofs.W
open Go Vm Go.Proofs.Zso
def ruleAt (d : Dfa) (a : Int) : Int:=d.rule.getD a.toNat 0
theorem jpm {d : Dfa} {a : Int} (h0 : 0 <= a) (h1 : a < d.rule.length) : (d.rule.map (D.int .i64))[a.toNat]? = some (.int .i64 (ruleAt d a)):=by
  have hb : a.toNat < d.rule.length:=by omega
  simp [ruleAt,List.getD,hb]
def lgD (d : Dfa) : Int -> Int -> List Int -> Int × Int -> Int × Int
  | _,_,[],er=>er
  | a,p,c :: w,er=>if nextD d a c < 0 then er else lgD d (nextD d a c) (p + 1) w (if 0 <= ruleAt d (nextD d a c) then (p + 1,ruleAt d (nextD d a c)) else er)
def longD (d : Dfa) (w : List Int) (f : Int) : Int × Int:=if rightD d = true /\ 0 <= f /\ f <= w.length then lgD d 0 f (w.drop f.toNat) (-1,-1) else (-1,-1)
def pairD (x : Int × Int) : D:=.tup [.int .i64 x.1,.int .i64 x.2]
theorem jsX (d : Dfa) (w : List Int) (f : Int) (ht : tyM d) (hs : d.next.length <= 1000000) (hs2 : d.rule.length <= 9223372036854775807) (hw : w.length <= 1000000) : PureF Tryz.prog A 37 [dfaD d,isD w,.int .i64 f] (pairD (longD d w f)):=by
  have a1:=jaS d
  have a2:=jaT d
  have a3:=ja5 d
  have ew : isD w = .sl false (w.map (.int .i64)):=rfl
  refine jaj (n:=61) (rs:=[.tmp 6,.tmp 7]) Tryz.func37 rfl rfl rfl rfl rfl rfl ?_
  repeat' (first | apply wz1|apply wz2|apply wz3|apply wz4|apply wz5|apply wz6 | simp -dsimp (maxSteps:=999999) (disch:=omega) only[go_sem,simprocAttr, *] | ((first | refine wz8 ?_ ?_|refine wz9 ?_ ?_|refine wz7 ?_ ?_)<;>intro hh <;> (try replace hh:=vqs hh) <;> (try (exfalso;first | exact hh | omega))))
  refine jal bo36 rfl rfl (jdq d) (jdz d ht hs hs2) ?_
  cases hr : rightD d with
  | false=>
    have hz : longD d w f = (-1,-1):=by unfold longD;rw [hr];simp
    rw [hz]
    repeat' (first | apply wz1|apply wz2|apply wz3|apply wz4|apply wz5|apply wz6 | simp -dsimp (maxSteps:=999999) (disch:=omega) only[go_sem,simprocAttr, *,pairD] | ((first | refine wz8 (fun hh=>?_) (fun hh=>?_) | refine wz9 (fun hh=>?_) (fun hh=>?_) | refine jak (by simp -dsimp (maxSteps:=999999) (disch:=omega) only[go_sem,simprocAttr, *,pairD];exact rfl) (fun hh=>?_) (fun hh=>?_)) <;> (try replace hh:=vqs hh) <;> (try (exfalso;first | exact hh | omega))))
    rfl
  | true=>
    have hl:=jaA hr
    by_cases hf0 : f < 0
    · have hz : longD d w f = (-1,-1):=by unfold longD;rw [if_neg (by omega)]
      rw [hz]
      repeat' (first | apply wz1|apply wz2|apply wz3|apply wz4|apply wz5|apply wz6 | simp -dsimp (maxSteps:=999999) (disch:=omega) only[go_sem,simprocAttr, *,pairD] | ((first | refine wz8 (fun hh=>?_) (fun hh=>?_) | refine wz9 (fun hh=>?_) (fun hh=>?_) | refine jak (by simp -dsimp (maxSteps:=999999) (disch:=omega) only[go_sem,simprocAttr, *,pairD];exact rfl) (fun hh=>?_) (fun hh=>?_)) <;> (try replace hh:=vqs hh) <;> (try (exfalso;first | exact hh | omega))))
      rfl
    by_cases hf1 : (w.length : Int) < f
    · have hz : longD d w f = (-1,-1):=by unfold longD;rw [if_neg (by omega)]
      rw [hz]
      repeat' (first | apply wz1|apply wz2|apply wz3|apply wz4|apply wz5|apply wz6 | simp -dsimp (maxSteps:=999999) (disch:=omega) only[go_sem,simprocAttr, *,pairD] | ((first | refine wz8 (fun hh=>?_) (fun hh=>?_) | refine wz9 (fun hh=>?_) (fun hh=>?_) | refine jak (by simp -dsimp (maxSteps:=999999) (disch:=omega) only[go_sem,simprocAttr, *,pairD];exact rfl) (fun hh=>?_) (fun hh=>?_)) <;> (try replace hh:=vqs hh) <;> (try (exfalso;first | exact hh | omega))))
      rfl
    have hz : longD d w f = lgD d 0 f (w.drop f.toNat) (-1,-1):=by unfold longD;rw [if_pos ⟨hr,by omega,by omega⟩]
    rw [hz]
    have hwl : (w.drop f.toNat).length = w.length - f.toNat:=List.length_drop
    have hdr : List.drop f.toNat (List.take w.length (List.map (D.int .i64) w)) = (w.drop f.toNat).map (.int .i64):=by rw [<- List.map_take,List.take_length,List.map_drop]
    have hhd:=jba w
    generalize hG : lgD d 0 f (w.drop f.toNat) (-1,-1) = G
    replace hG : Hid (G = lgD d 0 (f + ((0 : Nat) : Int)) ((w.drop f.toNat).drop 0) (-1,-1)):=by show G = _;rw [<- hG];simp
    clear hz
    generalize hu : w.drop f.toNat = u at hwl hdr hG
    have hul : u.length <= 1000000:=by omega
    have huf : f + u.length <= 1000000:=by omega
    clear hwl
    repeat' (first | apply wz1|apply wz2|apply wz3|apply wz4|apply wz5|apply wz6 | simp -dsimp (maxSteps:=999999) (disch:=omega) only[go_sem,simprocAttr, *] | ((first | refine wz8 ?_ ?_|refine wz9 ?_ ?_|refine wz7 ?_ ?_)<;>intro hh <;> (try replace hh:=vqs hh) <;> (try (exfalso;first | exact hh | omega))))
    refine jae (fun e H=>∃ (j : Nat) (a x y : Int),j <= u.length /\ hget H 0 = .arr [dfaD d] /\ e 2 = .int .i64 f /\ e 3 = .ptr 0 0 0 /\ e 8 = .int .i64 x /\ e 9 = .int .i64 y /\ e 10 = .int .i64 a /\ e 30 = .sl false (u.map (.int .i64)) /\ e 31 = .int .i64 u.length /\ e 32 = .int .i64 j /\ 0 <= a /\ a < d.next.length /\ G = lgD d a (f + j) (u.drop j) (x,y)) (fun e H=>u.length - natOf (e 32)) ?_ ?_
    · exact ⟨0,0,-1,-1,by omega,rfl,gs,gs,gs,gs,gs,gs,gs,gs,by omega,by omega,hG⟩
    clear hG
    rintro e H ⟨j,a,x,y,hj,h0,e2,e3,e8,e9,e10,e30,e31,e32,ha0,ha1,ha⟩ R hR
    by_cases hb : j < u.length
    case neg=>
      rw [List.drop_eq_nil_of_le (by omega)] at ha
      have : G = (x,y):=ha
      subst this
      clear ha
      repeat' (first | apply wz1|apply wz2|apply wz3|apply wz4|apply wz5|apply wz6 | simp -dsimp (maxSteps:=999999) (disch:=omega) only[go_sem,simprocAttr, *,pairD] | ((first | refine wz8 (fun hh=>?_) (fun hh=>?_) | refine wz9 (fun hh=>?_) (fun hh=>?_) | refine jak (by simp -dsimp (maxSteps:=999999) (disch:=omega) only[go_sem,simprocAttr, *,pairD];exact rfl) (fun hh=>?_) (fun hh=>?_)) <;> (try replace hh:=vqs hh) <;> (try (exfalso;first | exact hh | omega))))
      rfl
    have hd : u.drop j = u[j] :: u.drop (j + 1):=List.drop_eq_getElem_cons hb
    rw [hd,lgD] at ha
    have hcell : (u.map (D.int .i64))[j]? = some (.int .i64 u[j]):=by simp [hb]
    generalize u[j] = c at ha hcell
    have hn:=jmO hr ht (c:=c) ha0 ha1
    replace ha : Hid (G = if nextD d a c < 0 then (x,y) else lgD d (nextD d a c) (f + j + 1) (u.drop (j + 1)) (if 0 <= ruleAt d (nextD d a c) then (f + j + 1,ruleAt d (nextD d a c)) else (x,y))):=ha
    repeat' (first | apply wz1|apply wz2|apply wz3|apply wz4|apply wz5|apply wz6 | simp -dsimp (maxSteps:=999999) (disch:=omega) only[go_sem,simprocAttr, *] | ((first | refine wz8 ?_ ?_|refine wz9 ?_ ?_|refine wz7 ?_ ?_)<;>intro hh <;> (try replace hh:=vqs hh) <;> (try (exfalso;first | exact hh | omega))))
    refine jal bo53 rfl rfl (jsL d a c) (jt2 d a c ht ha0 ha1 hs) ?_
    generalize nextD d a c = t at ha hn
    by_cases hc : t < 0
    · have : G = (x,y):=by rw [show G = _ from ha,if_pos hc]
      subst this
      clear ha
      repeat' (first | apply wz1|apply wz2|apply wz3|apply wz4|apply wz5|apply wz6 | simp -dsimp (maxSteps:=999999) (disch:=omega) only[go_sem,simprocAttr, *,pairD] | ((first | refine wz8 (fun hh=>?_) (fun hh=>?_) | refine wz9 (fun hh=>?_) (fun hh=>?_) | refine jak (by simp -dsimp (maxSteps:=999999) (disch:=omega) only[go_sem,simprocAttr, *,pairD];exact rfl) (fun hh=>?_) (fun hh=>?_)) <;> (try replace hh:=vqs hh) <;> (try (exfalso;first | exact hh | omega))))
      rfl
    have hcr:=jpm (d:=d) (a:=t) (by omega) (by omega)
    have hbd : -1 <= ruleAt d t:=by
      have hb2 : t.toNat < d.next.length:=by omega
      exact (jb9 hr hb2).1
    generalize ruleAt d t = q at ha hcr hbd
    repeat' (first | apply wz1|apply wz2|apply wz3|apply wz4|apply wz5|apply wz6 | simp -dsimp (maxSteps:=999999) (disch:=omega) only[go_sem,simprocAttr, *] | ((first | refine wz8 ?_ ?_|refine wz9 ?_ ?_|refine wz7 ?_ ?_)<;>intro hh <;> (try replace hh:=vqs hh) <;> (try (exfalso;first | exact hh | omega))))
    · refine jao (prs:=[]) (by kernel_rfl) rfl (by kernel_rfl) ?_;simp -dsimp (maxSteps:=999999) (disch:=omega) only[go_sem,simprocAttr, *]
      repeat' (first | apply wz1|apply wz2|apply wz3|apply wz4|apply wz5|apply wz6 | simp -dsimp (maxSteps:=999999) (disch:=omega) only[go_sem,simprocAttr, *] | ((first | refine wz8 ?_ ?_|refine wz9 ?_ ?_|refine wz7 ?_ ?_)<;>intro hh <;> (try replace hh:=vqs hh) <;> (try (exfalso;first | exact hh | omega))))
      refine hR _ _ ⟨j + 1,t,f + j + 1,q,by omega,gs,gs,gs,gs,gs,gs,gs,gs,gs,by omega,by omega,?_⟩ ?_
      · rw [show G = _ from ha,if_neg hc,if_pos (by omega)]
        congr 1;omega
      · simp -dsimp (maxSteps:=999999) (disch:=omega) only[go_sem,simprocAttr, *,jab]
    · refine hR _ _ ⟨j + 1,t,x,y,by omega,gs,gs,gs,gs,gs,gs,gs,gs,gs,by omega,by omega,?_⟩ ?_
      · rw [show G = _ from ha,if_neg hc,if_neg (by omega)]
        congr 1;omega
      · simp -dsimp (maxSteps:=999999) (disch:=omega) only[go_sem,simprocAttr, *,jab]
end Go.Proofs.W
end
section
namespace Go.Proofs.W
open Go Vm Go.Proofs.Zso
def goodD (d : Dfa) (a : Int) (w : List Int) : Bool:=decide (0 <= runD d a w) && decide (0 <= ruleAt d (runD d a w))
end Go.Proofs.W
end
section
namespace Go.Proofs.W
open Go Vm Go.Proofs.Zso
def refA (d : Dfa) (a : Int) (u : List Int) : Nat -> Option Nat
  | 0=>none
  | m + 1=>if goodD d a (u.take (m + 1)) then some (m + 1) else refA d a u m
theorem jur {d : Dfa} {a c : Int} {v : List Int} (h : nextD d a c < 0) : goodD d a (c :: v) = false:=by
  unfold goodD
  rw [runD,if_pos h];rfl
theorem jld {d : Dfa} {a c : Int} {v : List Int} (h : ¬ nextD d a c < 0) : goodD d a (c :: v) = goodD d (nextD d a c) v:=by
  unfold goodD
  rw [runD,if_neg h]
theorem jjY {d : Dfa} {a c : Int} {w : List Int} (h : nextD d a c < 0) : ∀ m,refA d a (c :: w) m = none
  | 0=>rfl
  | m + 1=>by
    rw [refA,List.take_succ_cons,jur h]
    exact jjY h m
theorem jkY {d : Dfa} {a c : Int} {w : List Int} (h : ¬ nextD d a c < 0) : ∀ m,refA d a (c :: w) (m + 1) = match refA d (nextD d a c) w m with
    | some k=>some (k + 1)
    | none=>if goodD d (nextD d a c) [] then some 1 else none
  | 0=>by
    show (if goodD d a [c] then some 1 else none) = _
    rw [jld h]
    rfl
  | m + 1=>by
    rw [refA,List.take_succ_cons,jld h,jkY h m]
    conv=>rhs;rw [refA]
    cases goodD d (nextD d a c) (w.take (m + 1)) <;> simp
theorem jj1 (d : Dfa) : ∀ (u : List Int) (a p : Int) (er : Int × Int),0 <= a -> lgD d a p u er = match refA d a u u.length with
    | none=>er
    | some m=>(p + m,ruleAt d (runD d a (u.take m)))
  | [],a,p,er,h=>rfl
  | c :: w,a,p,er,h=>by
    rw [lgD]
    by_cases ht : nextD d a c < 0
    · rw [if_pos ht,jjY ht]
    · rw [if_neg ht,jj1 d w _ _ _ (by omega),List.length_cons,jkY ht]
      cases hk : refA d (nextD d a c) w w.length with
      | none=>
        simp only
        have hg : goodD d (nextD d a c) [] = (decide (0 <= nextD d a c) && decide (0 <= ruleAt d (nextD d a c))):=rfl
        rw [hg]
        by_cases hq : 0 <= ruleAt d (nextD d a c)
        · have : (decide (0 <= nextD d a c) && decide (0 <= ruleAt d (nextD d a c))) = true:=by simp;omega
          rw [if_pos hq,if_pos this]
          simp only [List.take_succ_cons,List.take_zero,runD,if_neg ht]
          rfl
        · have : ¬ (decide (0 <= nextD d a c) && decide (0 <= ruleAt d (nextD d a c))) = true:=by simp;omega
          rw [if_neg hq,if_neg this]
      | some k=>
        simp only [List.take_succ_cons,runD,if_neg ht]
        congr 1
        omega
theorem long0 {d : Dfa} (hr : rightD d = true) (w : List Int) : longD d w 0 = lgD d 0 0 w (-1,-1):=by
  unfold longD
  rw [if_pos ⟨hr,by omega,by omega⟩]
  simp
end Go.Proofs.W
end
